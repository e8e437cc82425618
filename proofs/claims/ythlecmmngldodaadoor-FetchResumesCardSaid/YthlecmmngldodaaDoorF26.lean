/- The law FetchWants. -/
import Derived.Test.YthlecmmngldodaaDoorF25
namespace Go.Proofs.YthlecmmngldodaaDoor
open Go.RowKit Go.Sort

theorem take_set (X : List UInt8) {h : List (List UInt8)} (hg : Goodh X h) {k : Nat} (hk : k < (X.length + 1023) / 1024) : takeH (root (cutL X)) h (k : Int) (cutAt X k) (proofL ((cutL X).map leafS) k) = h.set k (cutAt X k) := by
  have he := take_right X hg hk
  have hkh : k < h.length := by rw [hg.1]; exact hk
  unfold takeH
  rw [Int.toNat_natCast]
  by_cases hem : (h.getD k []).isEmpty = true
  · rw [if_pos ⟨he, hem⟩]
  · rw [if_neg (fun q => hem q.2)]
    have hx := List.getElem?_eq_getElem hkh
    rcases hg.2 k _ hx with e | e
    · rw [List.getD_eq_getElem?_getD, hx, e] at hem
      exact absurd rfl hem
    · apply List.ext_getElem?
      intro j
      by_cases hj : k = j
      · subst hj; rw [List.getElem?_set_self hkh, hx, e]
      · rw [List.getElem?_set_ne hj]
/-- What is there, as a row of truth values. -/
def thV (h : List (List UInt8)) : List Value := h.map fun x => .bool (!x.isEmpty)
theorem thV_len (h : List (List UInt8)) : (thV h).length = h.length := by simp [thV]
theorem thV_set (h : List (List UInt8)) (k : Nat) (c : List UInt8) (hc : c ≠ []) : thV (h.set k c) = (thV h).set k (.bool true) := by
  unfold thV
  rw [List.map_set]
  cases c with
  | nil => exact absurd rfl hc
  | cons a t => rfl
theorem thV_get {h : List (List UInt8)} {k : Nat} (hk : k < h.length) : (thV h)[k]? = some (.bool (!(h.getD k []).isEmpty)) := by
  unfold thV
  rw [List.getElem?_map, List.getD_eq_getElem?_getD, List.getElem?_eq_getElem hk]
  rfl
theorem info4 : (Tryd.prog.info? 4).map (fun i => (i.zero, i.size, i.bytes)) = some (some (.bool false), 1, 1) := by kernel_rfl
theorem mkBools (w : World) (k : Nat) (hk : k ≤ 256) : (Instr.makeSlice 62 (.int .i64 (k : Int)) (.int .i64 (k : Int))).run Tryd.prog w = .ok (.slice (some ⟨w.heap.size, 0, none⟩) k k) (w.alloc (.cells (thV (List.replicate k [])).toArray 4)) := by
  obtain ⟨i0, hi0, hz0, hz1, hz2⟩ := info_parts info4
  rw [run_makeSlice w 62 4 i0 (.bool false) Tryd.underlying62 hi0 hz0 .i64 .i64 (k : Int) (k : Int) (by omega) (Int.le_refl _) (by rw [hz1]; omega) (by rw [hz2]; omega) (by omega)]
  rw [Int.toNat_natCast, hz1, Nat.mul_one]
  rw [show (Value.bool false).cells = #[Value.bool false] from rfl, made_one]
  unfold thV
  rw [List.map_replicate]
  rfl
theorem TLst.setAt {w : World} {A : Option Addr} {n : Nat} {cs : List (List UInt8)} {p : Addr} {t : Nat} {old : Array Value} (h : TLst w A n cs) (hg : Blk w p.block t old) (h5 : t ≠ 5) (h22 : t ≠ 22) (v : Value) : TLst (w.setCell p v) A n cs :=
  h.grown ((KeptIn.refl (fun k => k ≠ p.block) w).setAt (fun h => h rfl) v).grownBut (fun g' e => by cases e; exact ⟨_, hg⟩) h5 h22
theorem Blk.setAt {w : World} {B t t' : Nat} {cs cs' : Array Value} {p : Addr} (h : Blk w B t cs) (hg : Blk w p.block t' cs') (hne : t ≠ t') (v : Value) : Blk (w.setCell p v) B t cs :=
  h.keptIn ((KeptIn.refl (fun k => k ≠ p.block) w).setAt (fun h => h rfl) v) (h.ne hg hne)

set_option maxRecDepth 100000 in
set_option maxHeartbeats 8000000 in
theorem FetchWants_any (A : Option Addr) (len cap : Nat) (bs : List UInt8) (x : Int) (Al : Option Addr) (ln lcp : Nat) (os : List UInt8) (w : World) (hg : Globs w) (hr : Rd w 1 A len (bs.map byteV)) (_hcap : len ≤ cap) (hx : 0 ≤ x ∧ x ≤ 65535) (hrl : Rd w 1 Al ln (os.map byteV)) (_hlc : ln ≤ lcp) :
    Calls Tryd.prog 6 #[.slice A len cap, .int .u16 x, .slice Al ln lcp] w fun e w' => e = .returned (.bool true) ∧ Below w.heap.size w w' := by
  obtain ⟨n, rfl⟩ : ∃ n : Nat, x = (n : Int) := ⟨x.toNat, by omega⟩
  obtain ⟨i35, hi35, hz35, hs35, hy35⟩ := info_parts info35
  obtain ⟨i22, hi22, hz22, hs22, hy22⟩ := info_parts info22
  obtain ⟨i0, hi0, hz0, hz1, hz2⟩ := info_parts info3
  obtain ⟨d35, hd35, hrow35⟩ := und35
  have hln := hrl.le
  have Hr := Lib.hid hr
  have HAr := Lib.hid hrl
  have Hg := Lib.hid hg
  have Hs := Lib.hid (Sanity_any w hg)
  clear hr hg hrl
  go_enter Tryd.func6, Tryd.ntmps6
  go_wp2_with fail
  refine Hs.out.mono ?_
  rintro e w1 ⟨rfl, hb1⟩
  have HB := Lib.hid hb1
  clear Hs
  replace Hr := Lib.hid (Hr.out.below hb1)
  replace HAr := Lib.hid (HAr.out.below hb1)
  replace Hg := Lib.hid (Hg.out.below hb1)
  clear hb1
  have Hl := Lib.hid (Long_any A len cap n bs (by omega) w1 Hr.out)
  clear Hr
  go_wp2_with fail
  refine Hl.out.mono ?_
  rintro e w2 ⟨A2, c2, rfl, hc2, hr2, hb2⟩
  obtain ⟨X, hX⟩ : ∃ X, X = longL bs n := ⟨_, rfl⟩
  have hXl : X.length = 1 + n % 4000 := by rw [hX]; exact longL_len bs n
  rw [← hX] at hr2
  clear hX
  obtain ⟨L, hL⟩ : ∃ L, L = 1 + n % 4000 := ⟨_, rfl⟩
  have hL1 : 0 < L := by omega
  have hL2 : L ≤ 4000 := by omega
  rw [← hL] at hr2 hc2 hXl ⊢
  clear hL hx
  have Hc := Lib.hid (RCut_any A2 L c2 X w2 hr2 hL1 (by omega) hc2)
  have HXl := Lib.hid hXl
  clear hr2 Hl hXl
  replace HAr := Lib.hid (HAr.out.below hb2)
  replace Hg := Lib.hid (Hg.out.below hb2)
  replace HB := Lib.hid (HB.out.trans (hb2.mono HB.out.size))
  clear hb2
  go_wp2_with fail
  refine Hc.out.mono ?_
  rintro e w3 ⟨A3, c3, rfl, hc3, hl3, hb3⟩
  have HL3 := Lib.hid hl3
  clear hl3 Hc
  replace HAr := Lib.hid (HAr.out.below hb3)
  replace Hg := Lib.hid (Hg.out.below hb3)
  replace HB := Lib.hid (HB.out.trans (hb3.mono HB.out.size))
  clear hb3
  obtain ⟨m, hm⟩ : ∃ m, m = (L + 1023) / 1024 := ⟨_, rfl⟩
  rw [← hm] at HL3 hc3 ⊢
  have hm1 : 1 ≤ m := by omega
  have hm4 : m ≤ 4 := by omega
  have Hm := Lib.hid (show m = (X.length + 1023) / 1024 by rw [HXl.out]; exact hm)
  have hcs : ∀ c ∈ cutL X, c.length ≤ 8796093021000 := fun c hc => by
    obtain ⟨k, hk, rfl⟩ := List.mem_iff_getElem.1 hc
    rw [cutL_len] at hk
    have h1 := cutL_get X hk
    rw [List.getElem?_eq_getElem (by rw [cutL_len]; exact hk)] at h1
    rw [Option.some.inj h1, cutAt_len]; omega
  have Hcs := Lib.hid hcs
  have Hpf := Lib.hid (Proofs_typed A3 m c3 (cutL X) w3 w3 HL3.out (Below.refl _ _) (by omega) Hcs.out)
  clear hcs hm hL1 hc2
  go_wp2_with fail
  refine Hpf.out.mono ?_
  rintro e w4 ⟨A5, c5, ks, rfl, hc5, hks, hk5, _, hp5, hb4⟩
  have HK := Lib.hid hk5
  have HP := Lib.hid hp5
  clear hk5 hp5 Hpf
  replace HAr := Lib.hid (HAr.out.below hb4)
  replace Hg := Lib.hid (Hg.out.below hb4)
  replace HB := Lib.hid (HB.out.trans (hb4.mono HB.out.size))
  replace HL3 := Lib.hid (HL3.out.below hb4)
  clear hb4
  obtain ⟨tr, htr⟩ : ∃ tr, tr = root (cutL X) := ⟨_, rfl⟩
  have hrl := Release_any A3 m c3 (cutL X) w4 HL3.out (by omega) Hcs.out
  rw [← htr] at hrl
  have Hrl := Lib.hid hrl
  have Htr := Lib.hid htr
  clear hrl htr HL3
  go_wp2_with fail
  refine Hrl.out.mono ?_
  rintro e w6 ⟨rfl, hb6⟩
  clear Hrl
  replace HAr := Lib.hid (HAr.out.below hb6)
  replace Hg := Lib.hid (Hg.out.below hb6)
  replace HB := Lib.hid (HB.out.trans (hb6.mono HB.out.size))
  replace HK := Lib.hid (HK.out.below hb6)
  replace HP := Lib.hid (HP.out.below hb6)
  clear hb6
  have Hn := Lib.hid (New_typed (relC 0 0 0 m tr) m tr (relC_n _ _ _ _ _) (relC_t _ _ _ _ _) hm1 (by omega) w6)
  go_upto_region 5 with fail
  refine Hn.out.mono ?_
  rintro e wa ⟨ga, rfl, hka, hba⟩
  have HT := Lib.hid (tlst_empty hka (by omega))
  clear hka Hn
  replace HAr := Lib.hid (HAr.out.below hba)
  replace Hg := Lib.hid (Hg.out.below hba)
  replace HB := Lib.hid (HB.out.trans (hba.mono HB.out.size))
  replace HK := Lib.hid (HK.out.below hba)
  replace HP := Lib.hid (HP.out.below hba)
  clear hba
  have Hb0 := Lib.hid (Below.refl wa.heap.size wa)
  have hn_ : Blk (wa.alloc (.cells (fetchC z32 none 0 0).toArray 35)) wa.heap.size 35 (fetchC z32 none 0 0).toArray := Blk.new _ _ _
  have Hn_ := Lib.hid hn_
  clear hn_
  go_upto_region 5 with (first | (refine wpList_alloc0 rfl 35 rfl (fetchC z32 none 0 0).toArray _ i35 hi35 hz35 rfl ?_; simp only [Act.put, List.setIfInBounds_toArray, List.set_cons_succ, List.set_cons_zero]) | (refine wpList_store_row rfl 35 (.tmp 11) (.tmp 39) rfl wa.heap.size (fetchC tr (some ⟨ga, 0, none⟩) m m).toArray rfl rfl 35 (fetchC z32 none 0 0).toArray Hn_.out (size35 _ (by simp [fetchC_len])) (by simp [fetchC_len]) (fetch_one _ _ _ _) ?_))
  obtain ⟨wb, h_⟩ : ∃ v, v = (wa.alloc (.cells (fetchC z32 none 0 0).toArray 35)).setRow wa.heap.size (fetchC tr (some ⟨ga, 0, none⟩) m m).toArray := ⟨_, rfl⟩
  have hb_ : Below wa.heap.size wa wb := by rw [h_]; exact Below.setRow ((Below.refl _ _).alloc (Nat.le_refl _) _) (Nat.le_refl _) _
  have hF_ : Blk wb wa.heap.size 35 (fetchC tr (some ⟨ga, 0, none⟩) m m).toArray := by rw [h_]; exact setRow_heap _ _ _ _ _ _ Hn_.out
  rw [← h_]
  clear h_ Hn_
  obtain ⟨tb, h_⟩ : ∃ v, v = wa.heap.size := ⟨_, rfl⟩
  rw [← h_] at hF_ ⊢
  have HFtb := Lib.hid hF_
  have Htb := Lib.hid h_
  clear hF_ h_
  replace HT := Lib.hid (HT.out.below hb_)
  replace Hb0 := Lib.hid (Hb0.out.trans (hb_.mono Hb0.out.size))
  clear hb_
  have hmk := mkBools wb m (by omega)
  obtain ⟨wn, hwn⟩ : ∃ v, v = wb.alloc (.cells (thV (List.replicate m [])).toArray 4) := ⟨_, rfl⟩
  have hSB : Blk wn wb.heap.size 4 (thV (List.replicate m [])).toArray := by rw [hwn]; exact Blk.new _ _ _
  have hbn : Below wb.heap.size wb wn := by rw [hwn]; exact (Below.refl _ _).alloc (Nat.le_refl _) _
  rw [← hwn] at hmk
  clear hwn
  obtain ⟨sb, hsb⟩ : ∃ v, v = wb.heap.size := ⟨_, rfl⟩
  have hsb0 : wa.heap.size ≤ sb := by rw [hsb]; exact Hb0.out.size
  rw [← hsb] at hmk hSB
  have HSB := Lib.hid hSB
  clear hSB hsb
  replace HT := Lib.hid (HT.out.below hbn)
  replace HFtb := Lib.hid (HFtb.out.below hbn HFtb.out.lt)
  replace Hb0 := Lib.hid (Hb0.out.trans (hbn.mono Hb0.out.size))
  clear hbn
  go_upto_region 8 with fail
  clear hmk
  go_wp2_with fail
  go_loopw [14] (fun v14 wr => ∃ (i : Nat) (A' : Option Addr) (c' : Nat) (hh : List (List UInt8)), v14 = .int .i64 (i : Int) ∧ i ≤ 8 ∧ Blk wr tb 35 (fetchC tr A' m c').toArray ∧ TLst wr A' m hh ∧ Goodh X hh ∧ Blk wr sb 4 (thV hh).toArray ∧ Below wa.heap.size wa wr) (fun v14 _ => 8 - (intOf v14).toNat)
  case atStart => exact ⟨0, _, m, List.replicate m [], rfl, by omega, HFtb.out, HT.out, by rw [Hm.out]; exact good_start X, HSB.out, Hb0.out⟩
  case round =>
    obtain ⟨i, A6, c6, hh, rfl, hi8, hF, hT, hgd, hS, hB⟩ := hrel
    have HF := Lib.hid hF
    have HT := Lib.hid hT
    have Hgd := Lib.hid hgd
    have HS := Lib.hid hS
    have Hw := Lib.hid hB
    have hsz := hB.size
    have hhl := hT.lst.len
    clear hF hT hgd hS hB
    by_cases hlt : i < ln ∧ i < 8
    · obtain ⟨a1, a2⟩ := hlt
      obtain ⟨bo, oo, y, rfl, hy, cy⟩ := (HAr.out.below Hw.out).byte_ a1
      obtain ⟨q, hq⟩ : ∃ q, q = y.toNat % m := ⟨_, rfl⟩
      have hqm : q < m := by rw [hq]; exact Nat.mod_lt _ (by omega)
      have hmod : (wrap64 (y.toNat : Int)).tmod (m : Int) = (q : Int) := by
        have h1 := y.toNat_lt
        rw [show wrap64 (y.toNat : Int) = (y.toNat : Int) from by unfold wrap64; omega, Int.tmod_eq_emod_of_nonneg (by omega), hq]
        omega
      have Hmod := Lib.hid hmod
      clear hq hmod hy
      have d3 : decide ((i : Int) < 8) = true := decide_eq_true (by omega)
      go_upto_region 12 with fail
      rw [Hmod.out]
      clear cy Hmod
      obtain ⟨bk, ok, y2, rfl, hy, hcy⟩ := (HK.out.below Hw.out).rd.flat_ ckV_len (by omega) hqm
      obtain ⟨hyi, c, hc, hyd, hydc, _, hyl, hylc⟩ := (HP.out.below Hw.out) q y2 hy
      have hqX : q < (X.length + 1023) / 1024 := by rw [← Hm.out]; exact hqm
      rw [cutL_get X hqX] at hc
      obtain rfl : cutAt X q = c := Option.some.inj hc
      have hcl := cutAt_len X q
      have hyn := hyd.len1
      have hpl : (proofL ((cutL X).map leafS) q).length ≤ 2 := proofL_length 2 _ _ (by rw [List.length_map, cutL_len, ← Hm.out]; omega)
      have hyl' := hyl.rd.lenf sumC_len (by omega)
      have hxl := HXl.out
      have hmm := Hm.out
      have hdn : 1 ≤ y2.d.n ∧ y2.d.n ≤ 1024 := by omega
      have hln2 : y2.l.n ≤ 2 := by omega
      obtain ⟨yi, ⟨da, dn, dc⟩, ⟨la, lnn, lc⟩⟩ := y2
      simp only at hyi hyd hydc hyl hylc hyn hyl' hdn hln2
      subst hyi
      have k1 : wr.cell? ⟨bk, ok + q * 3 + 1, none⟩ = some (.slice da dn dc) := by rw [Nat.add_assoc]; exact hcy 1 _ rfl
      have k2 : wr.cell? ⟨bk, ok + q * 3 + 2, none⟩ = some (.slice la lnn lc) := by rw [Nat.add_assoc]; exact hcy 2 _ rfl
      have K1 := Lib.hid k1
      have K2 := Lib.hid k2
      have Hyd := Lib.hid hyd
      have Hyl := Lib.hid hyl
      have htk0 := take_right X Hgd.out hqX
      have hts0 := take_set X Hgd.out hqX
      have hgd1 := (take_step X Hgd.out hqX).1
      have hne := cutAt_ne X hqX
      rw [hts0] at hgd1
      have htk1 := take_right X hgd1 hqX
      have hts1 := take_set X hgd1 hqX
      rw [← Htr.out] at htk0 hts0 htk1 hts1
      rw [List.set_set] at hts1
      have hth := thV_set hh q _ hne
      obtain ⟨H, hH⟩ : ∃ H, H = hh.set q (cutAt X q) := ⟨_, rfl⟩
      rw [← hH] at hts0 hgd1 htk1 hts1 hth
      have hHl : H.length = m := by rw [hH, List.length_set]; exact hhl
      have Ht0 := Lib.hid (And.intro htk0 hts0)
      have Ht1 := Lib.hid (And.intro htk1 hts1)
      have Hgd1 := Lib.hid hgd1
      have Hth := Lib.hid hth
      clear k1 k2 hyd hyl htk0 hts0 hgd1 hne htk1 hts1 hth hH hcy hy hc hcl hyn hpl hyl' hxl hmm
      obtain ⟨vs, hrv, hlv, helv⟩ := HT.out
      have Hrv := Lib.hid hrv
      have Hel := Lib.hid helv
      have Hlv := Lib.hid hlv
      have hrt2 : ∀ w', Ext wr w' → w'.rangeAt tb 0 (sumC tr) := fun w' hw' => fetchC_tree (HF.out.below (ext_below hw') HF.out.lt)
      have c32 : wr.cell? ⟨tb, 32, none⟩ = some (.slice A6 m c6) := by rw [HF.out.cell]; exact fetchC_have _ _ _ _
      have c32r := cell_regrown c32
      have Hrt2 := Lib.hid hrt2
      clear hrv hlv helv hrt2 c32
      go_cut [16] from 64 to 70 (fun t16 wx => ∃ (B : Nat) (A9 : Option Addr) (c9 : Nat), t16 = .pointer (some ⟨B, 0, none⟩) ∧ wr.heap.size ≤ B ∧ Blk wx B 35 (fetchC tr A9 m c9).toArray ∧ TLst wx A9 m hh ∧ Below wr.heap.size wr wx)
      case first =>
        refine wp_region_reads_tail 8 [0, 1, 3, 4] 4 (by kernel_rfl) (List.take_append_drop _ _) rfl (by kernel_rfl) (by kernel_rfl) (by kernel_rfl) (by decide) (by kernel_rfl) (by kernel_rfl) (fun _ _ d _ _ h => by cases d <;> exact h) (by kernel_rfl) (by kernel_rfl) rfl ?_
        simp only [List.take_succ_cons, List.take_zero, List.drop_succ_cons, List.drop_zero, pickOps, List.getElem?_cons_zero, List.getElem?_cons_succ]
        repeat (first | go_big_quiet_step (fail) | (refine wpQuiet_load_mid rfl 33 _ rfl tb 0 rfl (sumC tr) _ Hrt2.out und32 rfl (by rw [sumC_len]; kernel_rfl) ?_; simp only [Act.put, List.setIfInBounds_toArray, List.set_cons_succ, List.set_cons_zero]))
        refine wpQuiet_nil ?_
        clear c32r
        refine web_start0 (fs := [floNil 2 66 22, floVar 7 16 35 (fetchC z32 none 0 0).toArray]) [.act 5 [2], .act 6 []] _ _ (by kernel_rfl) (fun _ _ d _ _ h => by cases d <;> exact h) ⟨⟨_, rfl, flo_nil rfl rfl rfl run_empty22⟩, ⟨_, rfl, flo_var rfl rfl rfl _ i35 hi35 hz35 rfl⟩, trivial⟩ (by decide) (by decide) (by kernel_rfl) (by kernel_rfl) (ext_drew (ext_refl _)) (by intro F hF; simp at hF; rcases hF with rfl | rfl <;> simp) 4 (by decide) (by kernel_rfl) ?_
        intro v1 W hW hneed o ho K hK
        cases ho
        obtain ⟨B2, hv2, hB2, hblk2⟩ := hneed 2 (by simp) (floNil 2 66 22) (by simp) rfl
        have hbW : Below wr.heap.size wr W := ((Below.refl _ wr).drew).trans hW
        simp only [putS, List.foldl_cons, List.foldl_nil, Act.put, List.setIfInBounds_toArray, List.set_cons_succ, List.set_cons_zero]
        refine step_appe rfl (.tmp 66) (.tmp 68) 27 rfl 22 i22 (.slice none 0 0) 1 24 Tryd.underlying27 hi22 hz22 hs22 hy22 rfl (by omega) wr.heap.size B2 hB2 hblk2 ?_ A6 m c6 (vs.map slV) rfl (Hrv.out.1.below hbW) (by unfold maxLen; omega) (by omega) ?_
        · exact hv2
        intro x1 W2 ha1 hb1 _
        refine hK _ _ (by intro F hF; simp at hF; rcases hF with rfl | rfl <;> exact ⟨rfl, by simp [Act.put]⟩) hb1 ?_
        have hb12 := hbW.trans (hb1.mono hbW.size)
        clear hK K hW hneed
        obtain ⟨A9, c9, rfl, hc9, _⟩ := ha1.rd
        have ht1 : TLst W2 A9 m hh := ⟨vs, ha1.trd, Hlv.out, fun k v c hv hc => ⟨(Hel.out k v c hv hc).1.below hb12, (Hel.out k v c hv hc).2⟩⟩
        have HO1 := Lib.hid ht1
        clear ha1 ht1
        intro v2 W3 hW3 _ o ho K hK
        cases ho
        have hb13 := hb12.trans (hW3.mono hb12.size)
        have HO3 := Lib.hid (HO1.out.below hW3)
        simp only [putS, List.foldl_cons, List.foldl_nil, Act.put, List.setIfInBounds_toArray, List.set_cons_succ, List.set_cons_zero]
        refine step_build2 rfl 35 0 1 (.tmp 65) (.tmp 69) rfl (.agg (sumC tr).toArray) (.slice A9 m c9) rfl rfl _ (built35 tr A9 m c9) ?_
        refine hK _ _ (by intro F hF; simp at hF; rcases hF with rfl | rfl <;> exact ⟨rfl, by simp [Act.put]⟩) (Below.refl _ _) ?_
        clear hK K hW3
        intro v3 W4 hW4 hall
        obtain ⟨B, hvB, hBw, hBb⟩ := hall (floVar 7 16 35 (fetchC z32 none 0 0).toArray) (by simp) (floVar 7 16 35 (fetchC z32 none 0 0).toArray) (by simp) rfl
        have hvB' : v3 7 = .pointer (some ⟨B, 0, none⟩) := hvB
        have hb14 := hb13.trans (hW4.mono hb13.size)
        have hO4 := (HO3.out.below hW4).setRow hBb (cells := (fetchC tr A9 m c9).toArray)
        have hB' : Blk (W4.setRow B (fetchC tr A9 m c9).toArray) B 35 (fetchC tr A9 m c9).toArray := setRow_heap _ _ _ _ _ _ hBb
        have hset := Below.setRow hb14 hBw (fetchC tr A9 m c9).toArray
        simp only [Exit.then, putS, List.foldl_cons, List.foldl_nil, Act.put, List.setIfInBounds_toArray, List.set_cons_succ, List.set_cons_zero]
        rw [hvB']
        refine wpList_store_row rfl 35 (.tmp 16) (.tmp 70) rfl B (fetchC tr A9 m c9).toArray rfl rfl 35 (fetchC z32 none 0 0).toArray hBb (size35 _ (by simp [fetchC_len])) (by simp [fetchC_len]) (fetch_one _ _ _ _) ?_
        refine wpList_nil ?_
        simp only [Act.put, List.setIfInBounds_toArray, List.set_cons_succ, List.set_cons_zero]
        have Hf1 := Lib.hid hB'
        have Hf2 := Lib.hid hO4
        have Hf3 := Lib.hid hset
        clear hB' hset hBb hO4 hvB hvB' hall hW4
        go_wp2_with fail
        go_meet
        exact ⟨B, A9, c9, rfl, hBw, Hf1.out, Hf2.out, Hf3.out⟩
      case' rest => skip
      obtain ⟨ob, A9, c9, rfl, _, hF9, hT9, hbs⟩ := hcut
      obtain ⟨ws, hws⟩ : ∃ v, v = wc := ⟨_, rfl⟩
      subst hws
      clear c32r Hrt2 Hrv Hel Hlv
      have HFob := Lib.hid hF9
      have HT9 := Lib.hid hT9
      have c1 := (hbs.cell (World.block_lt_of_cell? wr _ K1.out)).trans K1.out
      have c2 := (hbs.cell (World.block_lt_of_cell? wr _ K2.out)).trans K2.out
      replace K1 := Lib.hid c1
      replace K2 := Lib.hid c2
      clear hF9 hT9 c1 c2
      replace HF := Lib.hid (HF.out.below hbs HF.out.lt)
      replace HT := Lib.hid (HT.out.below hbs)
      replace HS := Lib.hid (HS.out.below hbs HS.out.lt)
      replace Hyd := Lib.hid (Hyd.out.below hbs)
      replace Hyl := Lib.hid (Hyl.out.below hbs)
      replace Hw := Lib.hid (Hw.out.trans (hbs.mono Hw.out.size))
      clear hbs
      go_upto_region 13 with fail
      have hrs : ∀ w', Ext ws w' → w'.rangeAt tb 0 (fetchC tr A6 m c6) := fun w' hw' => fetch_range (HF.out.below (ext_below hw') HF.out.lt)
      have Hrs := Lib.hid hrs
      have k1r := cell_regrown K1.out
      have k2r := cell_regrown K2.out
      clear hrs
      go_cut [17, 18] from 72 to 86 (fun td te wx => ∃ (B : Nat) (A8 : Option Addr) (c8 : Nat), td = .pointer (some ⟨B, 0, none⟩) ∧ te = .int .i64 0 ∧ ws.heap.size ≤ B ∧ Blk wx B 35 (fetchC tr A8 m c8).toArray ∧ TLst wx A8 m H ∧ Below ws.heap.size ws wx)
      case first =>
        refine wp_region_reads_tail 18 [0, 1, 2, 3, 4, 5, 6, 7, 8, 9, 10, 11] 6 (by kernel_rfl) (List.take_append_drop _ _) rfl (by kernel_rfl) (by kernel_rfl) (by kernel_rfl) (by decide) (by kernel_rfl) (by kernel_rfl) (fun _ _ d _ _ h => by cases d <;> exact h) (by kernel_rfl) (by kernel_rfl) rfl ?_
        simp only [List.take_succ_cons, List.take_zero, List.drop_succ_cons, List.drop_zero, pickOps, List.getElem?_cons_zero, List.getElem?_cons_succ]
        refine wpQuiet_load_mid rfl 35 _ rfl tb 0 rfl (fetchC tr A6 m c6) _ Hrs.out hd35 hrow35 (by rw [fetchC_len]; kernel_rfl) ?_
        simp only [Act.put, List.setIfInBounds_toArray, List.set_cons_succ, List.set_cons_zero]
        repeat (go_big_quiet_step (fail))
        refine wpQuiet_nil ?_
        clear k1r k2r
        refine chain_float (w0 := ws) (d := 17) (f := 16) (s := 17) (T := 35) (Z := (fetchC z32 none 0 0).toArray) (y := .tmp 85) (is1 := [13, 14, 15]) (by kernel_rfl) (fun _ _ d _ _ h => by cases d <;> exact h) (by kernel_rfl) rfl rfl rfl rfl (fun cells h => size35 _ (h.trans (by simp [fetchC_len]))) rfl rfl rfl rfl hi35 hz35 rfl [12] _ _ _ (by kernel_rfl) rfl (ext_drew (ext_refl _)) (by simp) ?_
        intro y1 W hW
        have hbW : Below ws.heap.size ws W := ((Below.refl _ ws).drew).trans hW
        simp only [Act.put, List.setIfInBounds_toArray, List.set_cons_succ, List.set_cons_zero, pickOps, List.getElem?_cons_zero, List.getElem?_cons_succ]
        have htk := Take_typed tr A6 m c6 hh (q : Int) da dn dc (cutAt X q) la lnn lc (proofL ((cutL X).map leafS) q) W ((Hg.out.below Hw.out).below hbW) (HT.out.lst.below hbW) (by omega) (Hyd.out.below hbW) (by omega) (Hyl.out.rd.below hbW) hylc (by omega)
        rw [Ht0.out.1, Ht0.out.2] at htk
        have Htk2 := Lib.hid htk
        clear htk hW
        intro K hK
        go_simp
        refine Htk2.out.mono ?_
        rintro e W3 ⟨A8, c8, rfl, _, hT8, hb8⟩
        refine hK _ _ rfl (by simp) hb8 ?_
        have HT8 := Lib.hid (hT8 (HT.out.below hbW))
        have Hb8 := Lib.hid (hbW.trans (hb8.mono hbW.size))
        clear hK K Htk2 hT8 hb8 hbW
        intro y3 W4 hW4
        simp only [Act.put, List.setIfInBounds_toArray, List.set_cons_succ, List.set_cons_zero, chainP, finP, pickOps, List.getElem?_cons_zero, List.getElem?_cons_succ]
        repeat (go_big_quiet_step (fail))
        refine wpQuiet_nil ?_
        refine ⟨rfl, by simp, fun B W5 hB hb5 hblk => ⟨_, rfl, by simp [fetchC_len], fetch_one _ _ _ _, ?_⟩⟩
        have hbb := hW4.trans (hb5.mono hW4.size)
        have hb6 := Below.setRow (Hb8.out.trans (hbb.mono Hb8.out.size)) hB (fetchC tr A8 m c8).toArray
        have hT9 := ((HT8.out.below hbb).setRow hblk (cells := (fetchC tr A8 m c8).toArray))
        have hF9 : Blk (W5.setRow B (fetchC tr A8 m c8).toArray) B 35 (fetchC tr A8 m c8).toArray := setRow_heap _ _ _ _ _ _ hblk
        have Hb6 := Lib.hid hb6
        have HT9' := Lib.hid hT9
        have HF9 := Lib.hid hF9
        clear hb6 hW4 hb5 hblk Hb8 HT8 hbb hT9 hF9
        simp only [Exit.then, Act.put, List.setIfInBounds_toArray, List.set_cons_succ, List.set_cons_zero]
        go_wp2_with fail
        go_meet
        exact ⟨B, A8, c8, rfl, rfl, hB, HF9.out, HT9'.out, Hb6.out⟩
      case' rest => skip
      obtain ⟨nb, A7, c7, rfl, rfl, hlonb, hFn, hTn, hbn⟩ := hcut
      obtain ⟨wt, hwe⟩ : ∃ v, v = wc := ⟨_, rfl⟩
      subst hwe
      clear k1r k2r Hrs
      have HFnb := Lib.hid hFn
      have HTnb := Lib.hid hTn
      have c1 := (hbn.cell (World.block_lt_of_cell? ws _ K1.out)).trans K1.out
      have c2 := (hbn.cell (World.block_lt_of_cell? ws _ K2.out)).trans K2.out
      replace K1 := Lib.hid c1
      replace K2 := Lib.hid c2
      clear hFn hTn c1 c2
      replace HF := Lib.hid (HF.out.below hbn HF.out.lt)
      replace HT := Lib.hid (HT.out.below hbn)
      replace HS := Lib.hid (HS.out.below hbn HS.out.lt)
      replace HFob := Lib.hid (HFob.out.below hbn HFob.out.lt)
      replace HT9 := Lib.hid (HT9.out.below hbn)
      replace Hyd := Lib.hid (Hyd.out.below hbn)
      replace Hyl := Lib.hid (Hyl.out.below hbn)
      replace Hw := Lib.hid (Hw.out.trans (hbn.mono Hw.out.size))
      clear hbn
      go_upto_region 14 with fail
      have hrs : ∀ w', Ext wt w' → w'.rangeAt nb 0 (fetchC tr A7 m c7) := fun w' hw' => fetch_range (HFnb.out.below (ext_below hw') HFnb.out.lt)
      have Hrs := Lib.hid hrs
      have k1r := cell_regrown K1.out
      have k2r := cell_regrown K2.out
      clear hrs
      go_cut [19, 20] from 88 to 102 (fun td te wx => ∃ (B : Nat) (A8 : Option Addr) (c8 : Nat), td = .pointer (some ⟨B, 0, none⟩) ∧ te = .int .i64 0 ∧ wt.heap.size ≤ B ∧ Blk wx B 35 (fetchC tr A8 m c8).toArray ∧ TLst wx A8 m H ∧ Below wt.heap.size wt wx)
      case first =>
        refine wp_region_reads_tail 18 [0, 1, 2, 3, 4, 5, 6, 7, 8, 9, 10, 11] 6 (by kernel_rfl) (List.take_append_drop _ _) rfl (by kernel_rfl) (by kernel_rfl) (by kernel_rfl) (by decide) (by kernel_rfl) (by kernel_rfl) (fun _ _ d _ _ h => by cases d <;> exact h) (by kernel_rfl) (by kernel_rfl) rfl ?_
        simp only [List.take_succ_cons, List.take_zero, List.drop_succ_cons, List.drop_zero, pickOps, List.getElem?_cons_zero, List.getElem?_cons_succ]
        refine wpQuiet_load_mid rfl 35 _ rfl nb 0 rfl (fetchC tr A7 m c7) _ Hrs.out hd35 hrow35 (by rw [fetchC_len]; kernel_rfl) ?_
        simp only [Act.put, List.setIfInBounds_toArray, List.set_cons_succ, List.set_cons_zero]
        repeat (go_big_quiet_step (fail))
        refine wpQuiet_nil ?_
        clear k1r k2r
        refine chain_float (w0 := wt) (d := 19) (f := 16) (s := 17) (T := 35) (Z := (fetchC z32 none 0 0).toArray) (y := .tmp 101) (is1 := [13, 14, 15]) (by kernel_rfl) (fun _ _ d _ _ h => by cases d <;> exact h) (by kernel_rfl) rfl rfl rfl rfl (fun cells h => size35 _ (h.trans (by simp [fetchC_len]))) rfl rfl rfl rfl hi35 hz35 rfl [12] _ _ _ (by kernel_rfl) rfl (ext_drew (ext_refl _)) (by simp) ?_
        intro y1 W hW
        have hbW : Below wt.heap.size wt W := ((Below.refl _ wt).drew).trans hW
        simp only [Act.put, List.setIfInBounds_toArray, List.set_cons_succ, List.set_cons_zero, pickOps, List.getElem?_cons_zero, List.getElem?_cons_succ]
        have htk := Take_typed tr A7 m c7 H (q : Int) da dn dc (cutAt X q) la lnn lc (proofL ((cutL X).map leafS) q) W ((Hg.out.below Hw.out).below hbW) (HTnb.out.lst.below hbW) (by omega) (Hyd.out.below hbW) (by omega) (Hyl.out.rd.below hbW) hylc (by omega)
        rw [Ht1.out.1, Ht1.out.2] at htk
        have Htk2 := Lib.hid htk
        clear htk hW
        intro K hK
        go_simp
        refine Htk2.out.mono ?_
        rintro e W3 ⟨A8, c8, rfl, _, hT8, hb8⟩
        refine hK _ _ rfl (by simp) hb8 ?_
        have HT8 := Lib.hid (hT8 (HTnb.out.below hbW))
        have Hb8 := Lib.hid (hbW.trans (hb8.mono hbW.size))
        clear hK K Htk2 hT8 hb8 hbW
        intro y3 W4 hW4
        simp only [Act.put, List.setIfInBounds_toArray, List.set_cons_succ, List.set_cons_zero, chainP, finP, pickOps, List.getElem?_cons_zero, List.getElem?_cons_succ]
        repeat (go_big_quiet_step (fail))
        refine wpQuiet_nil ?_
        refine ⟨rfl, by simp, fun B W5 hB hb5 hblk => ⟨_, rfl, by simp [fetchC_len], fetch_one _ _ _ _, ?_⟩⟩
        have hbb := hW4.trans (hb5.mono hW4.size)
        have hb6 := Below.setRow (Hb8.out.trans (hbb.mono Hb8.out.size)) hB (fetchC tr A8 m c8).toArray
        have hT9 := ((HT8.out.below hbb).setRow hblk (cells := (fetchC tr A8 m c8).toArray))
        have hF9 : Blk (W5.setRow B (fetchC tr A8 m c8).toArray) B 35 (fetchC tr A8 m c8).toArray := setRow_heap _ _ _ _ _ _ hblk
        have Hb6 := Lib.hid hb6
        have HT9' := Lib.hid hT9
        have HF9 := Lib.hid hF9
        clear hb6 hW4 hb5 hblk Hb8 HT8 hbb hT9 hF9
        simp only [Exit.then, Act.put, List.setIfInBounds_toArray, List.set_cons_succ, List.set_cons_zero]
        go_wp2_with fail
        go_meet
        exact ⟨B, A8, c8, rfl, rfl, hB, HF9.out, HT9'.out, Hb6.out⟩
      case' rest => skip
      obtain ⟨ab, A8, c8, rfl, rfl, hloab, hFn, hTn, hbn⟩ := hcut
      obtain ⟨wu, hwe⟩ : ∃ v, v = wc := ⟨_, rfl⟩
      subst hwe
      clear k1r k2r Hrs
      have HFab := Lib.hid hFn
      have HTab := Lib.hid hTn
      have c1 := (hbn.cell (World.block_lt_of_cell? wt _ K1.out)).trans K1.out
      have c2 := (hbn.cell (World.block_lt_of_cell? wt _ K2.out)).trans K2.out
      replace K1 := Lib.hid c1
      replace K2 := Lib.hid c2
      clear hFn hTn c1 c2
      replace HF := Lib.hid (HF.out.below hbn HF.out.lt)
      replace HT := Lib.hid (HT.out.below hbn)
      replace HS := Lib.hid (HS.out.below hbn HS.out.lt)
      replace HFob := Lib.hid (HFob.out.below hbn HFob.out.lt)
      replace HT9 := Lib.hid (HT9.out.below hbn)
      replace HFnb := Lib.hid (HFnb.out.below hbn HFnb.out.lt)
      replace HTnb := Lib.hid (HTnb.out.below hbn)
      replace Hw := Lib.hid (Hw.out.trans (hbn.mono Hw.out.size))
      clear hbn
      clear K1 K2 Hyd Hyl
      have hcs : wu.cell? ⟨sb, q, none⟩ = some (.bool (!(hh.getD q []).isEmpty)) := by rw [HS.out.cell, List.getElem?_toArray]; exact thV_get (by omega)
      have hSn : Blk (wu.setCell ⟨sb, q, none⟩ (.bool true)) sb 4 (thV H).toArray := by
        rw [Hth.out, ← List.setIfInBounds_toArray]
        exact heap_setCell_same wu sb q _ 4 (.bool true) HS.out
      have hSblk : Blk wu (⟨sb, q, none⟩ : Addr).block 4 (thV hh).toArray := HS.out
      obtain ⟨wv, hwv⟩ : ∃ v, v = wu.setCell ⟨sb, q, none⟩ (.bool true) := ⟨_, rfl⟩
      have g1 := HF.out.setAt hSblk (by decide) (.bool true)
      have g2 := HT.out.setAt hSblk (by decide) (by decide) (.bool true)
      have g3 := HFob.out.setAt hSblk (by decide) (.bool true)
      have g4 := HT9.out.setAt hSblk (by decide) (by decide) (.bool true)
      have g5 := HFnb.out.setAt hSblk (by decide) (.bool true)
      have g6 := HTnb.out.setAt hSblk (by decide) (by decide) (.bool true)
      have g7 := HFab.out.setAt hSblk (by decide) (.bool true)
      have g8 := HTab.out.setAt hSblk (by decide) (by decide) (.bool true)
      have g9 := Hw.out.setCell (p := ⟨sb, q, none⟩) hsb0 (.bool true)
      have hfz := HS.out.frozen q
      go_upto_region 16 with fail
      clear hfz
      rw [← hwv] at g1 g2 g3 g4 g5 g6 g7 g8 g9 hSn ⊢
      replace HF := Lib.hid g1
      replace HT := Lib.hid g2
      replace HFob := Lib.hid g3
      replace HT9 := Lib.hid g4
      replace HFnb := Lib.hid g5
      replace HTnb := Lib.hid g6
      replace HFab := Lib.hid g7
      replace HTab := Lib.hid g8
      replace Hw := Lib.hid g9
      replace HS := Lib.hid hSn
      clear g1 g2 g3 g4 g5 g6 g7 g8 g9 hSn hSblk hcs hwv
      go_upto_region 18 with fail
      obtain ⟨wo, hwo⟩ : ∃ v, v = wv.alloc (.cells #[] 3) := ⟨_, rfl⟩
      have hbo : Below wv.heap.size wv wo := by rw [hwo]; exact (Below.refl _ _).alloc (Nat.le_refl _) _
      try rw [← hwo]
      clear hwo
      replace HF := Lib.hid (HF.out.below hbo HF.out.lt)
      replace HT := Lib.hid (HT.out.below hbo)
      replace HS := Lib.hid (HS.out.below hbo HS.out.lt)
      replace HFob := Lib.hid (HFob.out.below hbo HFob.out.lt)
      replace HT9 := Lib.hid (HT9.out.below hbo)
      replace HFnb := Lib.hid (HFnb.out.below hbo HFnb.out.lt)
      replace HTnb := Lib.hid (HTnb.out.below hbo)
      replace HFab := Lib.hid (HFab.out.below hbo HFab.out.lt)
      replace HTab := Lib.hid (HTab.out.below hbo)
      replace Hw := Lib.hid (Hw.out.trans (hbo.mono Hw.out.size))
      clear hbo
      go_loopw [21, 22] (fun v21 v22 wr => ∃ (j : Nat), v22 = .int .i64 (j : Int) ∧ j ≤ m ∧ App wr wo.heap.size 3 v21 (wantF H j).length ((wantF H j).map natV) ∧ Below wo.heap.size wo wr) (fun _ v22 _ => m - (intOf v22).toNat)
      case atStart => exact ⟨0, rfl, by omega, App.rebase, Below.refl _ _⟩
      case round =>
        obtain ⟨j, rfl, hj, happ, hB1⟩ := hrel
        have Happ := Lib.hid happ
        have HB1 := Lib.hid hB1
        have hsz1 := hB1.size
        clear happ hB1
        by_cases hjm : j < m
        · have hcj : wr.cell? ⟨sb, j, none⟩ = some (.bool (!(H.getD j []).isEmpty)) := by rw [(HS.out.below HB1.out HS.out.lt).cell, List.getElem?_toArray]; exact thV_get (by omega)
          have hws := wantF_succ H j
          have hwl := wantF_len H j
          by_cases he : (H.getD j []).isEmpty = true
          · rw [if_pos he] at hws
            rw [he] at hcj
            have Hws := Lib.hid hws
            clear hws he
            go_wp2_with (at_builtin; go_loud (refine wpList_app rfl (.tmp 118) (.tmp 120) 38 rfl 3 i0 (.int .i64 0) 8 und65 hi0 hz0 hz1 hz2 rfl wo.heap.size (by simp; omega) _ _ _ rfl (Happ.out.litE _) (some ⟨wr.heap.size, 0, none⟩) 1 1 [natV j] rfl (lit_rdE _ _ _) (by simp [natV, Value.oneCell']) (by unfold maxLen; omega) (by omega) ?_; intro v1 w3 happ1 hb1))
            refine ⟨⟨j + 1, by go_num, by omega, ?_, (HB1.out.alloc hsz1 _).trans hb1⟩, by simp [intOf]; omega⟩
            rw [Hws.out, List.map_append, List.length_append]
            exact happ1
          · rw [if_neg he, List.append_nil] at hws
            rw [Bool.eq_false_iff.2 he] at hcj
            have Hws := Lib.hid hws
            clear hws he
            go_wp2_with fail
            exact ⟨⟨j + 1, by go_num, by omega, by rw [Hws.out]; exact Happ.out, HB1.out⟩, by simp [intOf]; omega⟩
        · obtain rfl : j = m := by omega
          have hwl : wantF H j = wantL H := by unfold wantL; rw [hHl]
          obtain ⟨Aw, cw, rfl, _, hR⟩ := Happ.out.rd
          rw [hwl] at hR ⊢
          have HR := Lib.hid hR
          obtain ⟨wp, hwp⟩ : ∃ v, v = wr := ⟨_, rfl⟩
          subst hwp
          have hb3 := HB1.out
          clear hR hwl Happ HB1
          replace HF := Lib.hid (HF.out.below hb3 HF.out.lt)
          replace HT := Lib.hid (HT.out.below hb3)
          replace HS := Lib.hid (HS.out.below hb3 HS.out.lt)
          replace HFob := Lib.hid (HFob.out.below hb3 HFob.out.lt)
          replace HT9 := Lib.hid (HT9.out.below hb3)
          replace HFnb := Lib.hid (HFnb.out.below hb3 HFnb.out.lt)
          replace HTnb := Lib.hid (HTnb.out.below hb3)
          replace HFab := Lib.hid (HFab.out.below hb3 HFab.out.lt)
          replace HTab := Lib.hid (HTab.out.below hb3)
          replace Hw := Lib.hid (Hw.out.trans (hb3.mono Hw.out.size))
          clear hb3
          have hsm := RSame_any tr tr A8 A7 j j c8 c7 H H wp HTab.out.lst HTnb.out.lst
          rw [decide_eq_true (show tr = tr ∧ H = H from ⟨rfl, rfl⟩)] at hsm
          have Hsm := Lib.hid hsm
          clear hsm
          go_wp2_with (first | (refine wpList_load_mid_g (by first | rfl | simp [Region.wanted, yielded]) 35 (.tmp 19) rfl ab 0 rfl (fetchC tr A8 j c8) _ (fetch_range HFab.out) hd35 hrow35 (by rw [fetchC_len]; kernel_rfl) ?_) | (refine wpList_load_mid_g (by first | rfl | simp [Region.wanted, yielded]) 35 (.tmp 17) rfl nb 0 rfl (fetchC tr A7 j c7) _ (fetch_range HFnb.out) hd35 hrow35 (by rw [fetchC_len]; kernel_rfl) ?_))
          refine Hsm.out.mono ?_
          rintro e wq ⟨rfl, hb4⟩
          clear Hsm HFab HTab
          replace HF := Lib.hid (HF.out.below hb4 HF.out.lt)
          replace HT := Lib.hid (HT.out.below hb4)
          replace HS := Lib.hid (HS.out.below hb4 HS.out.lt)
          replace HFob := Lib.hid (HFob.out.below hb4 HFob.out.lt)
          replace HT9 := Lib.hid (HT9.out.below hb4)
          replace HFnb := Lib.hid (HFnb.out.below hb4 HFnb.out.lt)
          replace HTnb := Lib.hid (HTnb.out.below hb4)
          replace Hw := Lib.hid (Hw.out.trans (hb4.mono Hw.out.size))
          replace HR := Lib.hid (HR.out.below hb4)
          clear hb4
          have hsm := RSame_any tr tr A6 A9 j j c6 c9 hh hh wq HT.out.lst HT9.out.lst
          rw [decide_eq_true (show tr = tr ∧ hh = hh from ⟨rfl, rfl⟩)] at hsm
          have Hsm := Lib.hid hsm
          clear hsm
          go_wp2_with (first | (refine wpList_load_mid_g (by first | rfl | simp [Region.wanted, yielded]) 35 (.tmp 11) rfl tb 0 rfl (fetchC tr A6 j c6) _ (fetch_range HF.out) hd35 hrow35 (by rw [fetchC_len]; kernel_rfl) ?_) | (refine wpList_load_mid_g (by first | rfl | simp [Region.wanted, yielded]) 35 (.tmp 16) rfl ob 0 rfl (fetchC tr A9 j c9) _ (fetch_range HFob.out) hd35 hrow35 (by rw [fetchC_len]; kernel_rfl) ?_))
          refine Hsm.out.mono ?_
          rintro e wx ⟨rfl, hb5⟩
          clear Hsm HFob HT9
          replace HF := Lib.hid (HF.out.below hb5 HF.out.lt)
          replace HT := Lib.hid (HT.out.below hb5)
          replace HS := Lib.hid (HS.out.below hb5 HS.out.lt)
          replace HFnb := Lib.hid (HFnb.out.below hb5 HFnb.out.lt)
          replace HTnb := Lib.hid (HTnb.out.below hb5)
          replace Hw := Lib.hid (Hw.out.trans (hb5.mono Hw.out.size))
          replace HR := Lib.hid (HR.out.below hb5)
          clear hb5
          have Hwn := Lib.hid (Want_any tr A7 j c7 H wx HTnb.out.lst (by omega))
          go_wp2_with (refine wpList_load_mid_g (by first | rfl | simp [Region.wanted, yielded]) 35 (.tmp 17) rfl nb 0 rfl (fetchC tr A7 j c7) _ (fetch_range HFnb.out) hd35 hrow35 (by rw [fetchC_len]; kernel_rfl) ?_)
          refine Hwn.out.mono ?_
          rintro e wy ⟨A11, c11, rfl, hr11, hb6⟩
          have HR11 := Lib.hid hr11
          clear Hwn hr11
          replace HF := Lib.hid (HF.out.below hb6 HF.out.lt)
          replace HT := Lib.hid (HT.out.below hb6)
          replace HS := Lib.hid (HS.out.below hb6 HS.out.lt)
          replace HFnb := Lib.hid (HFnb.out.below hb6 HFnb.out.lt)
          replace HTnb := Lib.hid (HTnb.out.below hb6)
          replace Hw := Lib.hid (Hw.out.trans (hb6.mono Hw.out.size))
          replace HR := Lib.hid (HR.out.below hb6)
          clear hb6
          have hin := RInts_any A11 Aw (wantL H).length (wantL H).length c11 cw (wantL H) (wantL H) wy HR11.out HR.out
          rw [decide_eq_true rfl] at hin
          have Hin := Lib.hid hin
          clear hin
          go_wp2_with fail
          refine Hin.out.mono ?_
          rintro e wz ⟨rfl, hb7⟩
          clear Hin HR11 HR
          replace HF := Lib.hid (HF.out.below hb7 HF.out.lt)
          replace HT := Lib.hid (HT.out.below hb7)
          replace HS := Lib.hid (HS.out.below hb7 HS.out.lt)
          replace HFnb := Lib.hid (HFnb.out.below hb7 HFnb.out.lt)
          replace HTnb := Lib.hid (HTnb.out.below hb7)
          replace Hw := Lib.hid (Hw.out.trans (hb7.mono Hw.out.size))
          clear hb7
          have hfl : H.flatten.length ≤ 1000000000 := by
            have h1 := flat_cut_le X Hgd1.out
            have h2 := HXl.out
            omega
          have Hdn := Lib.hid (Done_any tr A7 j c7 H wz HTnb.out.lst (by omega) hfl)
          clear hfl
          go_upto_region 25 with (refine wpList_load_mid rfl 35 (.tmp 17) rfl nb 0 rfl (fetchC tr A7 j c7) _ (fetch_range HFnb.out) hd35 hrow35 (by rw [fetchC_len]; kernel_rfl) ?_)
          refine Hdn.out.mono ?_
          rintro e we ⟨A12, c12, rfl, _, hb8⟩
          clear Hdn
          replace HF := Lib.hid (HF.out.below hb8 HF.out.lt)
          replace HT := Lib.hid (HT.out.below hb8)
          replace HS := Lib.hid (HS.out.below hb8 HS.out.lt)
          replace HFnb := Lib.hid (HFnb.out.below hb8 HFnb.out.lt)
          replace HTnb := Lib.hid (HTnb.out.below hb8)
          replace Hw := Lib.hid (Hw.out.trans (hb8.mono Hw.out.size))
          clear hb8
          have htb := Htb.out
          have HFn := Lib.hid (show Blk (we.setRow tb (fetchC tr A7 j c7).toArray) tb 35 (fetchC tr A7 j c7).toArray from setRow_heap _ _ _ _ _ _ HF.out)
          have HTn := Lib.hid (HTnb.out.setRow HF.out (cells := (fetchC tr A7 j c7).toArray))
          have HSn := Lib.hid (HS.out.keptIn ((KeptIn.refl (fun k => k ≠ tb) we).setRow (g := tb) (fun h => h rfl) (fetchC tr A7 j c7).toArray) (HS.out.ne HF.out (by decide)))
          have HWn := Lib.hid (Below.setRow Hw.out (show wa.heap.size ≤ tb by omega) (fetchC tr A7 j c7).toArray)
          clear htb
          have hde : (doneE H = 0 ∧ (wantL H).length = 0) ∨ (doneE H ≠ 0 ∧ (wantL H).length ≠ 0) := by
            unfold doneE
            by_cases hall : allB H = true
            · rw [if_pos hall]; exact .inl ⟨rfl, (want_all H).2 hall⟩
            · rw [if_neg hall]; exact .inr ⟨by decide, fun e => hall ((want_all H).1 e)⟩
          obtain ⟨de, hd⟩ : ∃ v, v = doneE H := ⟨_, rfl⟩
          obtain ⟨wl, hwl⟩ : ∃ v, v = (wantL H).length := ⟨_, rfl⟩
          rw [← hd, ← hwl] at hde ⊢
          clear hd hwl
          rcases hde with ⟨rfl, rfl⟩ | ⟨hd, hwl⟩
          · go_wp2_with (first | (refine wpList_load_mid rfl 35 (.tmp 17) rfl nb 0 rfl (fetchC tr A7 j c7) _ (fetch_range HFnb.out) hd35 hrow35 (by rw [fetchC_len]; kernel_rfl) ?_) | (refine wpList_store_row rfl 35 (.tmp 11) (.tmp 158) rfl tb (fetchC tr A7 j c7).toArray rfl rfl 35 (fetchC tr A6 j c6).toArray HF.out (size35 _ (by simp [fetchC_len])) (by simp [fetchC_len]) (fetch_one _ _ _ _) ?_))
            exact ⟨⟨i + 1, A7, c7, H, by go_num, by omega, HFn.out, HTn.out, Hgd1.out, HSn.out, HWn.out⟩, by simp [intOf]; omega⟩
          · have g1 : (de == 0) = false := by rw [beq_eq_false_iff_ne]; exact hd
            have g2 : ((wl : Int) == 0) = false := by rw [beq_eq_false_iff_ne]; omega
            have g3 : decide (wl = 0) = false := decide_eq_false hwl
            go_wp2_with (first | (refine wpList_load_mid rfl 35 (.tmp 17) rfl nb 0 rfl (fetchC tr A7 j c7) _ (fetch_range HFnb.out) hd35 hrow35 (by rw [fetchC_len]; kernel_rfl) ?_) | (refine wpList_store_row rfl 35 (.tmp 11) (.tmp 158) rfl tb (fetchC tr A7 j c7).toArray rfl rfl 35 (fetchC tr A6 j c6).toArray HF.out (size35 _ (by simp [fetchC_len])) (by simp [fetchC_len]) (fetch_one _ _ _ _) ?_))
            exact ⟨⟨i + 1, A7, c7, H, by go_num, by omega, HFn.out, HTn.out, Hgd1.out, HSn.out, HWn.out⟩, by simp [intOf]; omega⟩
    · have HBe := Lib.hid (HB.out.trans (Hw.out.mono HB.out.size))
      by_cases hi : i < ln
      · have d3 : decide ((i : Int) < 8) = false := decide_eq_false (by omega)
        have d4 : decide (i < 8) = false := decide_eq_false (by omega)
        clear hlt
        go_wp2_with fail
        go_ret
        exact ⟨rfl, HBe.out⟩
      · have d3 : decide ((i : Int) < (ln : Int)) = false := decide_eq_false (by omega)
        have d4 : decide (i < ln) = false := decide_eq_false hi
        clear hlt
        go_wp2_with fail
        go_ret
        exact ⟨rfl, HBe.out⟩
end Go.Proofs.YthlecmmngldodaaDoor
