/- The law TopForgedBytesAreRefused. -/
import Derived.Test.YthlecmmngldodaaDoorF29
import Derived.Test.YthlecmmngldodaaDoorF27
namespace Go.Proofs.YthlecmmngldodaaDoor
open Go.RowKit Go.Sort

theorem arr3 (y : Arr 3) : ∃ b0 b1 b2 : UInt8, arrC y = [byteV b0, byteV b1, byteV b2] := by
  obtain ⟨l, hl⟩ := y
  match l, hl with
  | [a, b, c], _ => exact ⟨a, b, c, rfl⟩
/-- The right chunk is taken, whatever is there. -/
theorem take_rightL (X : List UInt8) {h : List (List UInt8)} (hl : h.length = (X.length + 1023) / 1024) {k : Nat} (hk : k < (X.length + 1023) / 1024) : takeE (root (cutL X)) h (k : Int) (cutAt X k) (proofL ((cutL X).map leafS) k) = 0 := by
  rw [takeE_ok (by rw [hl]; exact hk) (by rw [hl]; exact cut_proper X hk), hl, chk_cut X hk, if_pos rfl]
theorem takeH_length {tr : Sum32} {h : List (List UInt8)} {i : Int} {d : List UInt8} {p : List Sum32} : (takeH tr h i d p).length = h.length := by
  unfold takeH; split
  · rw [List.length_set]
  · rfl
/-- Behind a right chunk, its place is not empty; the others are as empty as they were. -/
theorem takeH_full {tr : Sum32} {h : List (List UInt8)} {k : Nat} {d : List UInt8} {p : List Sum32} (hk : k < h.length) (hd : d ≠ []) (he : takeE tr h (k : Int) d p = 0) :
    ((takeH tr h (k : Int) d p).getD k []).isEmpty = false ∧ ∀ j, (h.getD j []).isEmpty = false → ((takeH tr h (k : Int) d p).getD j []).isEmpty = false := by
  have hde : d.isEmpty = false := by cases d with
    | nil => exact absurd rfl hd
    | cons a t => rfl
  unfold takeH
  rw [Int.toNat_natCast]
  by_cases hem : (h.getD k []).isEmpty = true
  · rw [if_pos ⟨he, hem⟩]
    refine ⟨by rw [List.getD_eq_getElem?_getD, List.getElem?_set_self hk]; exact hde, fun j hj => ?_⟩
    by_cases hkj : k = j
    · subst hkj; rw [List.getD_eq_getElem?_getD, List.getElem?_set_self hk]; exact hde
    · rw [List.getD_eq_getElem?_getD, List.getElem?_set_ne hkj, ← List.getD_eq_getElem?_getD]; exact hj
  · rw [if_neg (fun q => hem q.2)]
    exact ⟨Bool.eq_false_iff.2 hem, fun j hj => hj⟩
theorem allB_of {h : List (List UInt8)} {m : Nat} (hl : h.length = m) (hf : ∀ j, j < m → (h.getD j []).isEmpty = false) : allB h = true := by
  unfold allB
  rw [List.all_eq_true]
  intro x hx
  obtain ⟨k, hk, rfl⟩ := List.mem_iff_getElem.1 hx
  have := hf k (by omega)
  rw [List.getD_eq_getElem?_getD, List.getElem?_eq_getElem hk] at this
  simpa using this
theorem good_full (X : List UInt8) {h : List (List UInt8)} (hg : Goodh X h) (hf : ∀ j, j < (X.length + 1023) / 1024 → (h.getD j []).isEmpty = false) : h = cutL X := by
  refine all_there X hg fun j hj => ?_
  have hjl : j < h.length := by rw [hg.1]; exact hj
  have hx := List.getElem?_eq_getElem hjl
  rcases hg.2 j _ hx with e | e
  · have := hf j hj
    rw [List.getD_eq_getElem?_getD, hx, e] at this
    cases this
  · rw [hx, e]
theorem Pfs.at_ {w : World} {base : Nat} {ks : List Ck} {X : List UInt8} (h : Pfs w base ks (cutL X)) {q : Nat} {y : Ck} (hy : ks[q]? = some y) (hq : q < (X.length + 1023) / 1024) (hX : X.length ≤ 4000) :
    Rd w 32 y.l.a y.l.n ((proofL ((cutL X).map leafS) q).flatMap sumC) ∧ y.l.n ≤ y.l.c ∧ y.l.n ≤ 2 := by
  obtain ⟨_, _, _, h4, h5, h6⟩ := h.at hy hq hX
  exact ⟨h4, h5, h6⟩

set_option maxRecDepth 100000 in
set_option maxHeartbeats 16000000 in
theorem TopForged_any (A : Option Addr) (len cap : Nat) (bs : List UInt8) (x : Int) (Al : Option Addr) (ln lcp : Nat) (xs : List (Arr 3)) (w : World) (hg : Globs w) (hr : Rd w 1 A len (bs.map byteV)) (_hcap : len ≤ cap) (hx : 0 ≤ x ∧ x ≤ 65535) (hrl : Rd w 3 Al ln (xs.flatMap arrC)) (_hlc : ln ≤ lcp) :
    Calls Tryd.prog 10 #[.slice A len cap, .int .u16 x, .slice Al ln lcp] w fun e w' => e = .returned (.bool true) ∧ Below w.heap.size w w' := by
  obtain ⟨n, rfl⟩ : ∃ n : Nat, x = (n : Int) := ⟨x.toNat, by omega⟩
  obtain ⟨i35, hi35, hz35, hs35, hy35⟩ := info_parts info35
  obtain ⟨i5, hi5, hz5, hs5, hy5⟩ := info_parts info5
  obtain ⟨d35, hd35, hrow35⟩ := und35
  have hln := hrl.le
  have Hr := Lib.hid hr
  have HAr := Lib.hid hrl
  have Hg := Lib.hid hg
  have Hs := Lib.hid (Sanity28_any w hg)
  clear hr hg hrl
  go_enter Tryd.func10, Tryd.ntmps10
  go_wp2_with fail
  refine Hs.out.mono ?_
  rintro e w1 ⟨rfl, hb1⟩
  have HB := Lib.hid hb1
  clear Hs
  replace Hr := Lib.hid (Hr.out.below hb1)
  replace HAr := Lib.hid (HAr.out.below hb1)
  replace Hg := Lib.hid (Hg.out.below hb1)
  clear hb1
  have Hl := Lib.hid (Long_any A len cap n bs (by omega) w1 Hr.out)
  clear Hr
  go_wp2_with fail
  refine Hl.out.mono ?_
  rintro e w2 ⟨A2, c2, rfl, hc2, hr2, hb2⟩
  obtain ⟨X, hX⟩ : ∃ X, X = longL bs n := ⟨_, rfl⟩
  have hXl : X.length = 1 + n % 4000 := by rw [hX]; exact longL_len bs n
  rw [← hX] at hr2
  clear hX
  obtain ⟨L, hL⟩ : ∃ L, L = 1 + n % 4000 := ⟨_, rfl⟩
  have hL1 : 0 < L := by omega
  have hL2 : L ≤ 4000 := by omega
  rw [← hL] at hr2 hc2 hXl ⊢
  clear hL hx
  have Hc := Lib.hid (RCut_any A2 L c2 X w2 hr2 hL1 (by omega) hc2)
  have HXl := Lib.hid (And.intro hXl (show X.length ≤ 4000 by omega))
  have HR2 := Lib.hid hr2
  clear hr2 Hl hXl
  replace HAr := Lib.hid (HAr.out.below hb2)
  replace Hg := Lib.hid (Hg.out.below hb2)
  replace HB := Lib.hid (HB.out.trans (hb2.mono HB.out.size))
  clear hb2
  go_wp2_with fail
  refine Hc.out.mono ?_
  rintro e w3 ⟨A3, c3, rfl, hc3, hl3, hb3⟩
  have HL3 := Lib.hid hl3
  clear hl3 Hc
  replace HAr := Lib.hid (HAr.out.below hb3)
  replace Hg := Lib.hid (Hg.out.below hb3)
  replace HB := Lib.hid (HB.out.trans (hb3.mono HB.out.size))
  replace HR2 := Lib.hid (HR2.out.below hb3)
  clear hb3
  obtain ⟨m, hm⟩ : ∃ m, m = (L + 1023) / 1024 := ⟨_, rfl⟩
  rw [← hm] at HL3 hc3 ⊢
  have hm1 : 1 ≤ m := by omega
  have hm4 : m ≤ 4 := by omega
  have Hm := Lib.hid (show m = (X.length + 1023) / 1024 by rw [HXl.out.1]; exact hm)
  have hcs : ∀ c ∈ cutL X, c.length ≤ 8796093021000 := fun c hc => by
    obtain ⟨k, hk, rfl⟩ := List.mem_iff_getElem.1 hc
    rw [cutL_len] at hk
    have h1 := cutL_get X hk
    rw [List.getElem?_eq_getElem (by rw [cutL_len]; exact hk)] at h1
    rw [Option.some.inj h1, cutAt_len]; omega
  have Hcs := Lib.hid hcs
  have Hpf := Lib.hid (Proofs_typed A3 m c3 (cutL X) w3 w3 HL3.out (Below.refl _ _) (by omega) Hcs.out)
  have Hm0 := Lib.hid (And.intro hm hL1)
  clear hcs hm hL1 hL2
  go_wp2_with fail
  refine Hpf.out.mono ?_
  rintro e w4 ⟨A5, c5, ks, rfl, hc5, hks, hk5, _, hp5, hb4⟩
  have HK := Lib.hid hk5
  have HP := Lib.hid hp5
  clear hk5 hp5 Hpf
  obtain ⟨bk, ok, _, hA5, _, _⟩ := HK.out.rd.flat_ ckV_len (by omega) (show 0 < m by omega)
  subst hA5
  replace HAr := Lib.hid (HAr.out.below hb4)
  replace Hg := Lib.hid (Hg.out.below hb4)
  replace HB := Lib.hid (HB.out.trans (hb4.mono HB.out.size))
  replace HL3 := Lib.hid (HL3.out.below hb4)
  replace HR2 := Lib.hid (HR2.out.below hb4)
  clear hb4
  obtain ⟨tr, htr⟩ : ∃ tr, tr = root (cutL X) := ⟨_, rfl⟩
  have hrl := release_any 3 A2 L c2 X w4 HR2.out Hm0.out.2 (by have := HXl.out; omega) hc2
  rw [← htr, ← Hm0.out.1] at hrl
  have Hrl := Lib.hid hrl
  have Htr := Lib.hid htr
  clear hrl htr Hm0
  go_wp2_with fail
  refine Hrl.out.mono ?_
  rintro e w6 ⟨rfl, hb6⟩
  clear Hrl
  replace HAr := Lib.hid (HAr.out.below hb6)
  replace Hg := Lib.hid (Hg.out.below hb6)
  replace HB := Lib.hid (HB.out.trans (hb6.mono HB.out.size))
  replace HK := Lib.hid (HK.out.below hb6)
  replace HP := Lib.hid (HP.out.below hb6)
  replace HL3 := Lib.hid (HL3.out.below hb6)
  replace HR2 := Lib.hid (HR2.out.below hb6)
  clear hb6
  have Hn := Lib.hid (New_typed (relC 3 100 1 m tr) m tr (relC_n _ _ _ _ _) (relC_t _ _ _ _ _) hm1 (by omega) w6)
  go_upto_region 6 with fail
  refine Hn.out.mono ?_
  rintro e wa ⟨ga, rfl, hka, hba⟩
  have HT := Lib.hid (tlst_empty hka (by omega))
  clear hka Hn
  replace HAr := Lib.hid (HAr.out.below hba)
  replace Hg := Lib.hid (Hg.out.below hba)
  replace HB := Lib.hid (HB.out.trans (hba.mono HB.out.size))
  replace HK := Lib.hid (HK.out.below hba)
  replace HP := Lib.hid (HP.out.below hba)
  replace HL3 := Lib.hid (HL3.out.below hba)
  replace HR2 := Lib.hid (HR2.out.below hba)
  clear hba
  have Hb0 := Lib.hid (Below.refl wa.heap.size wa)
  have hn_ : Blk (wa.alloc (.cells (fetchC z32 none 0 0).toArray 35)) wa.heap.size 35 (fetchC z32 none 0 0).toArray := Blk.new _ _ _
  have Hn_ := Lib.hid hn_
  clear hn_
  go_upto_region 6 with (first | (refine wpList_alloc0 rfl 35 rfl (fetchC z32 none 0 0).toArray _ i35 hi35 hz35 rfl ?_; simp only [Act.put, List.setIfInBounds_toArray, List.set_cons_succ, List.set_cons_zero]) | (refine wpList_store_row rfl 35 (.tmp 12) (.tmp 40) rfl wa.heap.size (fetchC tr (some ⟨ga, 0, none⟩) m m).toArray rfl rfl 35 (fetchC z32 none 0 0).toArray Hn_.out (size35 _ (by simp [fetchC_len])) (by simp [fetchC_len]) (fetch_one _ _ _ _) ?_))
  obtain ⟨wb, h_⟩ : ∃ v, v = (wa.alloc (.cells (fetchC z32 none 0 0).toArray 35)).setRow wa.heap.size (fetchC tr (some ⟨ga, 0, none⟩) m m).toArray := ⟨_, rfl⟩
  have hb_ : Below wa.heap.size wa wb := by rw [h_]; exact Below.setRow ((Below.refl _ _).alloc (Nat.le_refl _) _) (Nat.le_refl _) _
  have hF_ : Blk wb wa.heap.size 35 (fetchC tr (some ⟨ga, 0, none⟩) m m).toArray := by rw [h_]; exact setRow_heap _ _ _ _ _ _ Hn_.out
  rw [← h_]
  clear h_ Hn_
  obtain ⟨tb, h_⟩ : ∃ v, v = wa.heap.size := ⟨_, rfl⟩
  rw [← h_] at hF_ ⊢
  have HFtb := Lib.hid hF_
  have Htb := Lib.hid h_
  clear hF_ h_
  replace HT := Lib.hid (HT.out.below hb_)
  replace Hb0 := Lib.hid (Hb0.out.trans (hb_.mono Hb0.out.size))
  clear hb_
  go_wp2_with fail
  go_loopw [14, 15] (fun v14 v15 wr => ∃ (i : Nat) (cl : Bool) (A' : Option Addr) (c' : Nat) (hh : List (List UInt8)), v14 = .bool cl ∧ v15 = .int .i64 (i : Int) ∧ i ≤ 8 ∧ Blk wr tb 35 (fetchC tr A' m c').toArray ∧ TLst wr A' m hh ∧ (∀ x ∈ hh, x.length ≤ 2000) ∧ (cl = true ∨ Goodh X hh) ∧ Below wa.heap.size wa wr) (fun _ v15 _ => 8 - (intOf v15).toNat)
  case atStart => exact ⟨0, false, _, m, List.replicate m [], rfl, rfl, by omega, HFtb.out, HT.out, fun x hx => by rw [List.eq_of_mem_replicate hx]; simp, .inr (by rw [Hm.out]; exact good_start X), Hb0.out⟩
  case round =>
    obtain ⟨i, cl, A6, c6, hh, rfl, rfl, hi8, hF, hT, hbd6, hcg, hB⟩ := hrel
    have HF := Lib.hid hF
    have HT := Lib.hid hT
    have Hbd := Lib.hid hbd6
    have Hcg := Lib.hid hcg
    have Hw := Lib.hid hB
    have hsz := hB.size
    have hhl := hT.lst.len
    clear hF hT hbd6 hcg hB
    by_cases hlt : i < ln ∧ i < 8
    · obtain ⟨a1, a2⟩ := hlt
      obtain ⟨bl, ol, ya, rfl, hya, cya⟩ := (HAr.out.below Hw.out).flat_ arrC_len (by omega) a1
      obtain ⟨b0, b1, b2, hy3⟩ := arr3 ya
      rw [hy3] at cya
      have hx0 := b0.toNat_lt
      have hx1 := b1.toNat_lt
      have hx2 := b2.toNat_lt
      have e0 : wr.cell? ⟨bl, ol + i * 3, none⟩ = some (.int .u8 (b0.toNat : Int)) := cya 0 (byteV b0) rfl
      have e1 : wr.cell? ⟨bl, ol + i * 3 + 1, none⟩ = some (.int .u8 (b1.toNat : Int)) := by rw [Nat.add_assoc]; exact cya 1 (byteV b1) rfl
      have e2 : wr.cell? ⟨bl, ol + i * 3 + 2, none⟩ = some (.int .u8 (b2.toNat : Int)) := by rw [Nat.add_assoc]; exact cya 2 (byteV b2) rfl
      obtain ⟨q, hq⟩ : ∃ q, q = b0.toNat % m := ⟨_, rfl⟩
      have hqm : q < m := by rw [hq]; exact Nat.mod_lt _ (by omega)
      have hmod : (wrap64 (b0.toNat : Int)).tmod (m : Int) = (q : Int) := by
        rw [show wrap64 (b0.toNat : Int) = (b0.toNat : Int) from by unfold wrap64; omega, Int.tmod_eq_emod_of_nonneg (by omega), hq]
        omega
      have Hmod := Lib.hid hmod
      have hqi : (b0.toNat : Int) % (m : Int) = (q : Int) := by rw [hq]; omega
      have Hqi := Lib.hid hqi
      clear hq hmod hqi hya hy3 cya
      go_upto_region 13 with fail
      first | rw [Hqi.out] | rw [Hmod.out]
      clear Hmod Hqi e0
      obtain ⟨b3, o3, v3, cz, rfl, hcz, ccz, hrz, hvz⟩ := (HL3.out.below Hw.out).at_ hqm
      have hqX : q < (X.length + 1023) / 1024 := by rw [← Hm.out]; exact hqm
      rw [cutL_get X hqX] at hcz
      obtain rfl : cutAt X q = cz := Option.some.inj hcz
      have hcl := cutAt_len X q
      have hvn := hrz.len1
      have hxl := HXl.out.1
      have hmm := Hm.out
      have hvb : 1 ≤ v3.n ∧ v3.n ≤ 1024 := by omega
      have Hrz := Lib.hid hrz
      obtain ⟨C, hC⟩ : ∃ C, C = cutAt X q := ⟨_, rfl⟩
      rw [← hC] at hvn Hrz
      have HC := Lib.hid hC
      have ccz2 := (((Below.refl wr.heap.size wr).alloc (Nat.le_refl _) (.cells #[] 5)).cell (World.block_lt_of_cell? wr _ ccz)).trans ccz
      clear hcz hcl hxl hmm hrz hC
      go_upto_region 14 with (at_builtin; go_loud (refine wpList_app rfl (.tmp 63) (.tmp 67) 22 rfl 5 i5 (.int .u8 0) 1 Tryd.underlying22 hi5 hz5 hs5 hy5 rfl wr.heap.size (by simp) _ 0 [] rfl App.rebase v3.a v3.n v3.c (C.map byteV) rfl (Hrz.out.alloc _) (oneB _) (by unfold maxLen; omega) (by omega) ?_; intro v1 w5 happ1 hb1))
      have hb5 : Below wr.heap.size wr w5 := ((Below.refl _ _).alloc (Nat.le_refl _) _).trans hb1
      rw [Nat.zero_add, List.nil_append] at happ1
      obtain ⟨Ad, cd, rfl, hcd, hown⟩ := happ1.own (by omega)
      obtain ⟨g, rfl⟩ : ∃ g, Ad = some ⟨g, 0, none⟩ := by
        rcases hown.2 with ⟨_, h0⟩ | ⟨g, _, _, hv, _⟩
        · omega
        · cases hv; exact ⟨g, rfl⟩
      obtain ⟨cur, hcur⟩ := ownsRow_blk hown
      obtain ⟨q0, hq0⟩ : ∃ q0, q0 = b1.toNat * 4 % v3.n := ⟨_, rfl⟩
      have hq1 : q0 < v3.n := by rw [hq0]; exact Nat.mod_lt _ (by omega)
      have hmq : (wrap64 (wrap64 (b1.toNat : Int) * 4)).tmod (v3.n : Int) = (q0 : Int) := by
        rw [show wrap64 (b1.toNat : Int) = (b1.toNat : Int) from by unfold wrap64; omega]
        rw [show wrap64 ((b1.toNat : Int) * 4) = ((b1.toNat * 4 : Nat) : Int) from by unfold wrap64; omega, Int.tmod_eq_emod_of_nonneg (by omega), hq0]
        omega
      have hmq2 : ((b1.toNat : Int) * 4) % (v3.n : Int) = (q0 : Int) := by rw [hq0, Int.natCast_emod, Int.natCast_mul]; rfl
      obtain ⟨bp, op, yb, e, hy, hc⟩ := (Rd.of_own hown).byte_ hq1
      cases e
      rw [Nat.zero_add] at hc
      have hf := hcur.frozen q0
      have hxor : bits .xor .u8 (yb.toNat : Int) (b2.toNat : Int) = ((yb ^^^ b2).toNat : Int) := w8_xor yb b2
      have hown' := ownsRow_set hown (g := g) rfl q0 (byteV (yb ^^^ b2))
      rw [← List.map_set] at hown'
      obtain ⟨D, hD⟩ : ∃ D, D = C.set q0 (yb ^^^ b2) := ⟨_, rfl⟩
      rw [← hD] at hown'
      have hDl : D.length = v3.n := by rw [hD, List.length_set]; exact hvn
      have hgb := (hown.lt g rfl).1
      have e1 := (hb5.cell (World.block_lt_of_cell? wr _ e1)).trans e1
      have e2 := (hb5.cell (World.block_lt_of_cell? wr _ e2)).trans e2
      have Hown := Lib.hid hown'
      have Hcur := Lib.hid hcur
      have Hxor := Lib.hid hxor
      clear hq0 hy hown hown' hcur hD happ1 hb1 ccz ccz2
      have hb5k := Lib.hid hb5
      have HT0 := HT
      have Hrz0 := Hrz
      replace HF := Lib.hid (HF.out.below hb5 HF.out.lt)
      replace HT := Lib.hid (HT.out.below hb5)
      replace Hw := Lib.hid (Hw.out.trans (hb5.mono Hw.out.size))
      replace Hrz := Lib.hid (Hrz.out.below hb5)
      clear hb5
      refine wp_region_quiet_tail 19 (by kernel_rfl) (List.take_append_drop _ _) rfl (by kernel_rfl) (by kernel_rfl) (by kernel_rfl) (by kernel_rfl) (by kernel_rfl) (by decide) (by kernel_rfl) ?_
      simp only [List.take_succ_cons, List.take_zero, List.drop_succ_cons, List.drop_zero]
      repeat (go_big_quiet_step (fail))
      refine wpQuiet_nil ?_
      intro wq hw'
      obtain ⟨nq2, rfl⟩ := hw'
      clear hmq
      go_upto_region 15 with fail
      have hv : Value.int .u8 ((yb.toNat ^^^ b2.toNat : Nat) : Int) = byteV (yb ^^^ b2) := by unfold byteV; rw [UInt8.toNat_xor]
      have HKp := (KeptIn.refl (fun k => k ≠ g) w5).setAt (p := ⟨g, q0, none⟩) (fun h => h rfl) (byteV (yb ^^^ b2))
      rw [hv, show (w5.drewN nq2).setCell ⟨g, q0, none⟩ (byteV (yb ^^^ b2)) = (w5.setCell ⟨g, q0, none⟩ (byteV (yb ^^^ b2))).drewN nq2 from rfl]
      have hgF := Hcur.out.ne HF.out (by decide)
      obtain ⟨ws, hws⟩ : ∃ v, v = (w5.setCell ⟨g, q0, none⟩ (byteV (yb ^^^ b2))).drewN nq2 := ⟨_, rfl⟩
      have hgw : wr.heap.size ≤ g := hgb
      have g1 : Rd ws 1 (some ⟨g, 0, none⟩) v3.n (D.map byteV) := by rw [hws]; exact (Rd.of_own Hown.out).drewN nq2
      have g2 : Blk ws tb 35 (fetchC tr A6 m c6).toArray := by rw [hws]; exact (HF.out.keptIn HKp (fun e => hgF e.symm)).drewN nq2
      have hset : Below wr.heap.size wr (w5.setCell ⟨g, q0, none⟩ (byteV (yb ^^^ b2))) := hb5k.out.setCell hgw _
      have g3 : TLst ws A6 m hh := by rw [hws]; exact (HT0.out.below hset).below (below_drewN (Below.refl _ _) nq2)
      have g4 : Below wa.heap.size wa ws := by rw [hws]; exact below_drewN (Hw.out.setCell (by show wa.heap.size ≤ g; omega) _) nq2
      have g5 : Rd ws 1 v3.a v3.n (C.map byteV) := by rw [hws]; exact (Hrz0.out.below hset).below (below_drewN (Below.refl _ _) nq2)
      rw [← hws]
      replace HF := Lib.hid g2
      replace HT := Lib.hid g3
      replace Hw := Lib.hid g4
      replace Hrz := Lib.hid g5
      have HD := Lib.hid g1
      clear g1 g2 g3 g4 g5 hset hws HKp hgF hgb hv hf hc e1 e2 Hown Hcur Hxor hmq2 hb5k HT0 Hrz0
      obtain ⟨bk1, ok1, y2, hA5, hy, hcy⟩ := (HK.out.below Hw.out).rd.flat_ ckV_len (by omega) (show q < m by omega)
      obtain ⟨rfl, rfl⟩ : bk = bk1 ∧ ok = ok1 := by simp at hA5; exact hA5
      clear hA5
      have hqX : q < (X.length + 1023) / 1024 := by rw [← Hm.out]; omega
      obtain ⟨hyl, hylc, hln2⟩ := (HP.out.below Hw.out).at_ hy hqX HXl.out.2
      obtain ⟨yi, yd, ⟨la, lnn, lc⟩⟩ := y2
      simp only at hyl hylc hln2
      have k2 : ws.cell? ⟨bk, ok + q * 3 + 2, none⟩ = some (.slice la lnn lc) := by rw [Nat.add_assoc]; exact hcy 2 _ rfl
      have K2 := Lib.hid k2
      have Hyl := Lib.hid hyl
      clear hy hcy k2 hyl
      obtain ⟨E, hE⟩ : ∃ E, E = takeE tr hh (q : Int) D (proofL ((cutL X).map leafS) q) := ⟨_, rfl⟩
      obtain ⟨H, hH⟩ : ∃ H, H = takeH tr hh (q : Int) D (proofL ((cutL X).map leafS) q) := ⟨_, rfl⟩
      have hHb : ∀ x ∈ H, x.length ≤ 2000 := by rw [hH]; exact takeH_bd Hbd.out (by omega)
      have HHb := Lib.hid hHb
      have HE := Lib.hid (And.intro hE hH)
      clear hE hH hHb
      have hrs : ∀ w', Ext ws w' → w'.rangeAt tb 0 (fetchC tr A6 m c6) := fun w' hw' => fetch_range (HF.out.below (ext_below hw') HF.out.lt)
      have Hrs := Lib.hid hrs
      have k2r := cell_regrown K2.out
      clear hrs
      go_cut [18, 19] from 90 to 100 (fun td te wx => ∃ (B : Nat) (A8 : Option Addr) (c8 : Nat), td = .pointer (some ⟨B, 0, none⟩) ∧ te = .int .i64 E ∧ ws.heap.size ≤ B ∧ Blk wx B 35 (fetchC tr A8 m c8).toArray ∧ TLst wx A8 m H ∧ Below ws.heap.size ws wx)
      case first =>
        refine wp_region_reads_tail 14 [0, 1, 2, 3, 4, 5, 6, 7] 6 (by kernel_rfl) (List.take_append_drop _ _) rfl (by kernel_rfl) (by kernel_rfl) (by kernel_rfl) (by decide) (by kernel_rfl) (by kernel_rfl) (fun _ _ d _ _ h => by cases d <;> exact h) (by kernel_rfl) (by kernel_rfl) rfl ?_
        simp only [List.take_succ_cons, List.take_zero, List.drop_succ_cons, List.drop_zero, pickOps, List.getElem?_cons_zero, List.getElem?_cons_succ]
        refine wpQuiet_load_mid rfl 35 _ rfl tb 0 rfl (fetchC tr A6 m c6) _ Hrs.out hd35 hrow35 (by rw [fetchC_len]; kernel_rfl) ?_
        simp only [Act.put, List.setIfInBounds_toArray, List.set_cons_succ, List.set_cons_zero]
        repeat (go_big_quiet_step (fail))
        refine wpQuiet_nil ?_
        clear k2r
        refine chain_float (w0 := ws) (d := 18) (f := 12) (s := 13) (T := 35) (Z := (fetchC z32 none 0 0).toArray) (y := .tmp 99) (is1 := [9, 10, 11]) (by kernel_rfl) (fun _ _ d _ _ h => by cases d <;> exact h) (by kernel_rfl) rfl rfl rfl rfl (fun cells h => size35 _ (h.trans (by simp [fetchC_len]))) rfl rfl rfl rfl hi35 hz35 rfl [8] _ _ _ (by kernel_rfl) rfl (ext_drew (ext_refl _)) (by simp) ?_
        intro y1 W hW
        have hbW : Below ws.heap.size ws W := ((Below.refl _ ws).drew).trans hW
        simp only [Act.put, List.setIfInBounds_toArray, List.set_cons_succ, List.set_cons_zero, pickOps, List.getElem?_cons_zero, List.getElem?_cons_succ]
        have htk := Take_typed tr A6 m c6 hh (q : Int) (some ⟨g, 0, none⟩) v3.n cd D la lnn lc (proofL ((cutL X).map leafS) q) W ((Hg.out.below Hw.out).below hbW) (HT.out.lst.below hbW) (by omega) (HD.out.below hbW) (by omega) (Hyl.out.below hbW) hylc (by omega)
        rw [← HE.out.1, ← HE.out.2] at htk
        have Htk2 := Lib.hid htk
        clear htk hW
        intro K hK
        go_simp
        refine Htk2.out.mono ?_
        rintro e W3 ⟨A8, c8, rfl, _, hT8, hb8⟩
        refine hK _ _ rfl (by simp) hb8 ?_
        have HT8 := Lib.hid (hT8 (HT.out.below hbW))
        have Hb8 := Lib.hid (hbW.trans (hb8.mono hbW.size))
        clear hK K Htk2 hT8 hb8 hbW
        intro y3 W4 hW4
        simp only [Act.put, List.setIfInBounds_toArray, List.set_cons_succ, List.set_cons_zero, chainP, finP, pickOps, List.getElem?_cons_zero, List.getElem?_cons_succ]
        repeat (go_big_quiet_step (fail))
        refine wpQuiet_nil ?_
        refine ⟨rfl, by simp, fun B W5 hB hb5 hblk => ⟨_, rfl, by simp [fetchC_len], fetch_one _ _ _ _, ?_⟩⟩
        have hbb := hW4.trans (hb5.mono hW4.size)
        have hb6 := Below.setRow (Hb8.out.trans (hbb.mono Hb8.out.size)) hB (fetchC tr A8 m c8).toArray
        have hT9 := ((HT8.out.below hbb).setRow hblk (cells := (fetchC tr A8 m c8).toArray))
        have hF9 : Blk (W5.setRow B (fetchC tr A8 m c8).toArray) B 35 (fetchC tr A8 m c8).toArray := setRow_heap _ _ _ _ _ _ hblk
        have Hb6 := Lib.hid hb6
        have HT9' := Lib.hid hT9
        have HF9 := Lib.hid hF9
        clear hb6 hW4 hb5 hblk Hb8 HT8 hbb hT9 hF9
        simp only [Exit.then, Act.put, List.setIfInBounds_toArray, List.set_cons_succ, List.set_cons_zero]
        go_wp2_with fail
        go_meet
        exact ⟨B, A8, c8, rfl, rfl, hB, HF9.out, HT9'.out, Hb6.out⟩
      case' rest => skip
      obtain ⟨nb, A7, c7, rfl, rfl, hlonb, hFn, hTn, hbn⟩ := hcut
      obtain ⟨wt, hwe⟩ : ∃ v, v = wc := ⟨_, rfl⟩
      subst hwe
      have HFnb := Lib.hid hFn
      have HTnb := Lib.hid hTn
      have c2x := (hbn.cell (World.block_lt_of_cell? ws _ K2.out)).trans K2.out
      replace K2 := Lib.hid c2x
      clear k2r Hrs hFn hTn c2x
      replace HF := Lib.hid (HF.out.below hbn HF.out.lt)
      replace HT := Lib.hid (HT.out.below hbn)
      replace Hw := Lib.hid (Hw.out.trans (hbn.mono Hw.out.size))
      replace HD := Lib.hid (HD.out.below hbn)
      replace Hrz := Lib.hid (Hrz.out.below hbn)
      replace Hyl := Lib.hid (Hyl.out.below hbn)
      clear hbn
      by_cases hE : E = 0
      · obtain ⟨b4, o4, v4, cz, e4, hcz, ccz, hrz, _⟩ := (HL3.out.below Hw.out).at_ hqm
        cases e4
        rw [cutL_get X hqX] at hcz
        obtain rfl : cutAt X q = cz := Option.some.inj hcz
        rw [← HC.out] at hrz
        have hv4 := hrz.len1
        have hsm := R2Same_any (some ⟨g, 0, none⟩) v4.a v3.n v4.n cd v4.c D C wt HD.out hrz
        have Hsm := Lib.hid hsm
        replace Hrz := Lib.hid hrz
        have Ccz := Lib.hid ccz
        clear hsm hcz hrz
        have hE0 := hE
        subst hE
        go_upto_region 17 with fail
        refine Hsm.out.mono ?_
        rintro e wu ⟨rfl, hb9⟩
        have ccz := (hb9.cell (World.block_lt_of_cell? wt _ Ccz.out)).trans Ccz.out
        replace Ccz := Lib.hid ccz
        have c2x := (hb9.cell (World.block_lt_of_cell? wt _ K2.out)).trans K2.out
        replace K2 := Lib.hid c2x
        clear Hsm ccz c2x
        replace HF := Lib.hid (HF.out.below hb9 HF.out.lt)
        replace HT := Lib.hid (HT.out.below hb9)
        replace HFnb := Lib.hid (HFnb.out.below hb9 HFnb.out.lt)
        replace HTnb := Lib.hid (HTnb.out.below hb9)
        replace Hw := Lib.hid (Hw.out.trans (hb9.mono Hw.out.size))
        replace HD := Lib.hid (HD.out.below hb9)
        replace Hrz := Lib.hid (Hrz.out.below hb9)
        replace Hyl := Lib.hid (Hyl.out.below hb9)
        clear hb9
        have hin := takeE_right (HE.out.1.symm)
        rw [hhl, Int.toNat_natCast] at hin
        have Hin := Lib.hid hin
        clear hin
        by_cases hDC : D = C
        · rw [decide_eq_true hDC]
          have hst : ∀ (_ : Goodh X hh), Goodh X H := fun hg => by
            have := (take_step X hg hqX).1
            rw [← Htr.out, ← HC.out, ← hDC, ← HE.out.2] at this
            exact this
          have Hst := Lib.hid hst
          clear hst
          have htb := Htb.out
          have HFn := Lib.hid (show Blk (wu.setRow tb (fetchC tr A7 m c7).toArray) tb 35 (fetchC tr A7 m c7).toArray from setRow_heap _ _ _ _ _ _ HF.out)
          have HTn := Lib.hid (HTnb.out.setRow HF.out (cells := (fetchC tr A7 m c7).toArray))
          have HWn := Lib.hid (Below.setRow Hw.out (show wa.heap.size ≤ tb by omega) (fetchC tr A7 m c7).toArray)
          have Hgo := Lib.hid (show cl = true ∨ Goodh X H from Hcg.out.imp id Hst.out)
          clear htb
          go_wp2_with (first | (refine wpList_load_mid rfl 35 (.tmp 18) rfl nb 0 rfl (fetchC tr A7 m c7) _ (fetch_range HFnb.out) hd35 hrow35 (by rw [fetchC_len]; kernel_rfl) ?_) | (refine wpList_store_row rfl 35 (.tmp 12) (.tmp 139) rfl tb (fetchC tr A7 m c7).toArray rfl rfl 35 (fetchC tr A6 m c6).toArray HF.out (size35 _ (by simp [fetchC_len])) (by simp [fetchC_len]) (fetch_one _ _ _ _) ?_))
          exact ⟨⟨i + 1, cl, A7, c7, H, rfl, by go_num, by omega, HFn.out, HTn.out, HHb.out, Hgo.out, HWn.out⟩, by simp [intOf]; omega⟩
        · rw [decide_eq_false hDC]
          go_upto_region 17 with fail
          cases cl with
          | true =>
            go_quiet (fail)
            have hbq := below_drewN (Below.refl wu.heap.size wu) nq
            obtain ⟨wv, hwv⟩ : ∃ v, v = wu.drewN nq := ⟨_, rfl⟩
            rw [← hwv] at hbq ⊢
            clear hwv
            replace HF := Lib.hid (HF.out.below hbq HF.out.lt)
            replace HT := Lib.hid (HT.out.below hbq)
            replace HFnb := Lib.hid (HFnb.out.below hbq HFnb.out.lt)
            replace HTnb := Lib.hid (HTnb.out.below hbq)
            replace Hw := Lib.hid (Hw.out.trans (hbq.mono Hw.out.size))
            clear hbq
            obtain ⟨wu0, hwu0⟩ : ∃ v, v = wu := ⟨_, rfl⟩
            clear hwu0
            have htb := Htb.out
            have HFn := Lib.hid (show Blk (wv.setRow tb (fetchC tr A7 m c7).toArray) tb 35 (fetchC tr A7 m c7).toArray from setRow_heap _ _ _ _ _ _ HF.out)
            have HTn := Lib.hid (HTnb.out.setRow HF.out (cells := (fetchC tr A7 m c7).toArray))
            have HWn := Lib.hid (Below.setRow Hw.out (show wa.heap.size ≤ tb by omega) (fetchC tr A7 m c7).toArray)
            have Hgo := Lib.hid (show true = true ∨ Goodh X H from .inl rfl)
            clear htb
            go_wp2_with (first | (refine wpList_load_mid rfl 35 (.tmp 18) rfl nb 0 rfl (fetchC tr A7 m c7) _ (fetch_range HFnb.out) hd35 hrow35 (by rw [fetchC_len]; kernel_rfl) ?_) | (refine wpList_store_row rfl 35 (.tmp 12) (.tmp 139) rfl tb (fetchC tr A7 m c7).toArray rfl rfl 35 (fetchC tr A6 m c6).toArray HF.out (size35 _ (by simp [fetchC_len])) (by simp [fetchC_len]) (fetch_one _ _ _ _) ?_))
            exact ⟨⟨i + 1, true, A7, c7, H, rfl, by go_num, by omega, HFn.out, HTn.out, HHb.out, Hgo.out, HWn.out⟩, by simp [intOf]; omega⟩
          | false =>
            have hcf := RClash_forge m q (some ⟨g, 0, none⟩) la v4.a la v3.n cd lnn lc v4.n v4.c lnn lc D C (proofL ((cutL X).map leafS) q) (proofL ((cutL X).map leafS) q) tr hqm (by omega)
            have hck : chkL m q (leafS C) (proofL ((cutL X).map leafS) q) = some tr := by
              rw [HC.out, Hm.out, Htr.out]; exact chk_cut X hqX
            have Hcf := Lib.hid (fun W (hb : Below wu.heap.size wu W) => hcf W (HD.out.below hb) (by omega) (Hyl.out.below hb) (Hrz.out.below hb) (by omega) (Hyl.out.below hb) Hin.out.2 hck hDC)
            have k2r := cell_regrown K2.out
            have kzr := cell_regrown Ccz.out
            clear hcf hck
            go_cut [14] from 112 to 138 (fun t14 wx => t14 = .bool true ∧ Below wu.heap.size wu wx)
            case first =>
              refine wp_region_reads_tail 27 [0, 1, 2, 3, 4, 5, 6, 7, 8, 9, 10, 11, 12, 13, 14, 15, 16, 17, 18, 19, 20, 21, 22, 23, 24] 2 (by kernel_rfl) (List.take_append_drop _ _) rfl (by kernel_rfl) (by kernel_rfl) (by kernel_rfl) (by decide) (by kernel_rfl) (by kernel_rfl) (fun _ _ d _ _ h => by cases d <;> exact h) (by kernel_rfl) (by kernel_rfl) rfl ?_
              simp only [List.take_succ_cons, List.take_zero, List.drop_succ_cons, List.drop_zero, pickOps, List.getElem?_cons_zero, List.getElem?_cons_succ]
              repeat (go_big_quiet_step (fail))
              refine wpQuiet_nil ?_
              clear k2r kzr
              refine web_start0 (fs := []) [.act 25 [], .plain [26]] _ _ (by kernel_rfl) (fun _ _ d _ _ h => by cases d <;> exact h) trivial (by decide) (by decide) (by kernel_rfl) (by kernel_rfl) (ext_drew (ext_refl _)) (by intro F hF; simp at hF) 2 (by decide) (by kernel_rfl) ?_
              intro v1 W hW _ o ho K hK
              cases ho
              have hbW : Below wu.heap.size wu W := ((Below.refl _ wu).drew).trans hW
              simp only [putS, List.foldl_cons, List.foldl_nil, Act.put, List.setIfInBounds_toArray, List.set_cons_succ, List.set_cons_zero]
              have Hcg2 := Lib.hid (Hcf.out W hbW)
              unfold StepP
              go_simp
              refine Hcg2.out.mono ?_
              rintro e W2 ⟨rfl, hb2⟩
              refine hK _ _ (by intro F hF; simp at hF) hb2 ?_
              have hb2 := hbW.trans (hb2.mono hbW.size)
              clear hK K Hcg2
              intro v2 W3 hW3
              simp only [putS, List.foldl_cons, List.foldl_nil, Act.put, List.setIfInBounds_toArray, List.set_cons_succ, List.set_cons_zero, pickOps, List.getElem?_cons_zero, List.getElem?_cons_succ]
              repeat (go_big_quiet_step (fail))
              refine wpQuiet_nil ?_
              refine ⟨by intro F hF; simp at hF, ?_⟩
              intro v3 W4 hW4 _
              have Hend := Lib.hid (hb2.trans ((hW3.trans (hW4.mono hW3.size)).mono hb2.size))
              simp only [Exit.then, putS, List.foldl_cons, List.foldl_nil, Act.put, List.setIfInBounds_toArray, List.set_cons_succ, List.set_cons_zero]
              go_wp2_with fail
              go_meet
              exact ⟨rfl, Hend.out⟩
            case' rest => skip
            obtain ⟨rfl, hbq⟩ := hcut
            obtain ⟨wv, hwe⟩ : ∃ v, v = wc := ⟨_, rfl⟩
            subst hwe
            clear k2r kzr Hcf
            replace HF := Lib.hid (HF.out.below hbq HF.out.lt)
            replace HT := Lib.hid (HT.out.below hbq)
            replace HFnb := Lib.hid (HFnb.out.below hbq HFnb.out.lt)
            replace HTnb := Lib.hid (HTnb.out.below hbq)
            replace Hw := Lib.hid (Hw.out.trans (hbq.mono Hw.out.size))
            clear hbq
            have htb := Htb.out
            have HFn := Lib.hid (show Blk (wv.setRow tb (fetchC tr A7 m c7).toArray) tb 35 (fetchC tr A7 m c7).toArray from setRow_heap _ _ _ _ _ _ HF.out)
            have HTn := Lib.hid (HTnb.out.setRow HF.out (cells := (fetchC tr A7 m c7).toArray))
            have HWn := Lib.hid (Below.setRow Hw.out (show wa.heap.size ≤ tb by omega) (fetchC tr A7 m c7).toArray)
            have Hgo := Lib.hid (show true = true ∨ Goodh X H from .inl rfl)
            clear htb
            go_wp2_with (first | (refine wpList_load_mid rfl 35 (.tmp 18) rfl nb 0 rfl (fetchC tr A7 m c7) _ (fetch_range HFnb.out) hd35 hrow35 (by rw [fetchC_len]; kernel_rfl) ?_) | (refine wpList_store_row rfl 35 (.tmp 12) (.tmp 139) rfl tb (fetchC tr A7 m c7).toArray rfl rfl 35 (fetchC tr A6 m c6).toArray HF.out (size35 _ (by simp [fetchC_len])) (by simp [fetchC_len]) (fetch_one _ _ _ _) ?_))
            exact ⟨⟨i + 1, true, A7, c7, H, rfl, by go_num, by omega, HFn.out, HTn.out, HHb.out, Hgo.out, HWn.out⟩, by simp [intOf]; omega⟩
      · have hHh : H = hh := by rw [HE.out.2]; exact takeH_bad (HE.out.1 ▸ hE)
        have hE1 : (E == 0) = false := by rw [beq_eq_false_iff_ne]; exact hE
        have hgo : cl = true ∨ Goodh X H := by rw [hHh]; exact Hcg.out
        have Hgg := Lib.hid hgo
        clear hHh hgo hE
        have htb := Htb.out
        have HFn := Lib.hid (show Blk (wt.setRow tb (fetchC tr A7 m c7).toArray) tb 35 (fetchC tr A7 m c7).toArray from setRow_heap _ _ _ _ _ _ HF.out)
        have HTn := Lib.hid (HTnb.out.setRow HF.out (cells := (fetchC tr A7 m c7).toArray))
        have HWn := Lib.hid (Below.setRow Hw.out (show wa.heap.size ≤ tb by omega) (fetchC tr A7 m c7).toArray)
        have Hgo := Lib.hid (show cl = true ∨ Goodh X H from Hgg.out)
        clear htb
        go_wp2_with (first | (refine wpList_load_mid rfl 35 (.tmp 18) rfl nb 0 rfl (fetchC tr A7 m c7) _ (fetch_range HFnb.out) hd35 hrow35 (by rw [fetchC_len]; kernel_rfl) ?_) | (refine wpList_store_row rfl 35 (.tmp 12) (.tmp 139) rfl tb (fetchC tr A7 m c7).toArray rfl rfl 35 (fetchC tr A6 m c6).toArray HF.out (size35 _ (by simp [fetchC_len])) (by simp [fetchC_len]) (fetch_one _ _ _ _) ?_))
        exact ⟨⟨i + 1, cl, A7, c7, H, rfl, by go_num, by omega, HFn.out, HTn.out, HHb.out, Hgo.out, HWn.out⟩, by simp [intOf]; omega⟩
    · have hst : i < ln ∧ 8 ≤ i ∨ ln ≤ i := by omega
      rcases hst with ⟨hi, h8⟩ | hi
      · have d3 : decide ((i : Int) < 8) = false := decide_eq_false (by omega)
        have d4 : decide (i < 8) = false := decide_eq_false (by omega)
        clear hlt
        go_upto_region 20 with fail
        clear d3 d4
        obtain ⟨wo, hwo⟩ : ∃ wo, wo = wr := ⟨_, rfl⟩
        subst hwo
        go_loopw [20] (fun v20 wr => ∃ (j : Nat) (A' : Option Addr) (c' : Nat) (uu : List (List UInt8)), v20 = .int .i64 (j : Int) ∧ j ≤ m ∧ Blk wr tb 35 (fetchC tr A' m c').toArray ∧ TLst wr A' m uu ∧ (∀ x ∈ uu, x.length ≤ 2000) ∧ (cl = true ∨ Goodh X uu) ∧ (∀ t, t < j → (uu.getD t []).isEmpty = false) ∧ Below wa.heap.size wa wr) (fun v20 _ => m - (intOf v20).toNat)
        case atStart => exact ⟨0, A6, c6, hh, rfl, by omega, HF.out, HT.out, Hbd.out, Hcg.out, fun t h => by omega, Hw.out⟩
        case round =>
          clear HF HT Hbd Hcg Hw hhl hsz
          obtain ⟨j, A6, c6, hh, rfl, hjm, hF, hT, hbd6, hcg, hfull, hB⟩ := hrel
          have HF := Lib.hid hF
          have HT := Lib.hid hT
          have Hbd := Lib.hid hbd6
          have Hcg := Lib.hid hcg
          have Hfull := Lib.hid hfull
          have Hw := Lib.hid hB
          have hsz := hB.size
          have hhl := hT.lst.len
          clear hF hT hbd6 hcg hB hfull
          by_cases hj : j < m
          · obtain ⟨b3, o3, v3, cz, rfl, hcz, ccz, hrz, hvz⟩ := (HL3.out.below Hw.out).at_ hj
            have hqX : j < (X.length + 1023) / 1024 := by rw [← Hm.out]; exact hj
            rw [cutL_get X hqX] at hcz
            obtain rfl : cutAt X j = cz := Option.some.inj hcz
            have hcl := cutAt_len X j
            have hvn := hrz.len1
            have hvb : v3.n ≤ 1024 := by omega
            have Hrz := Lib.hid hrz
            have hne := cutAt_ne X hqX
            clear hcz hrz hcl
            go_upto_region 22 with fail
            obtain ⟨bk1, ok1, y2, hA5, hy, hcy⟩ := (HK.out.below Hw.out).rd.flat_ ckV_len (by omega) (show j < m by omega)
            obtain ⟨rfl, rfl⟩ : bk = bk1 ∧ ok = ok1 := by simp at hA5; exact hA5
            clear hA5
            obtain ⟨hyl, hylc, hln2⟩ := (HP.out.below Hw.out).at_ hy hqX HXl.out.2
            obtain ⟨yi, yd, ⟨la, lnn, lc⟩⟩ := y2
            simp only at hyl hylc hln2
            have k2 : wr.cell? ⟨bk, ok + j * 3 + 2, none⟩ = some (.slice la lnn lc) := by rw [Nat.add_assoc]; exact hcy 2 _ rfl
            have K2 := Lib.hid k2
            have Hyl := Lib.hid hyl
            clear hy hcy k2 hyl
            obtain ⟨H, hH⟩ : ∃ H, H = takeH tr hh (j : Int) (cutAt X j) (proofL ((cutL X).map leafS) j) := ⟨_, rfl⟩
            have hE : (0 : Int) = takeE tr hh (j : Int) (cutAt X j) (proofL ((cutL X).map leafS) j) := by rw [Htr.out]; exact (take_rightL X (by rw [← Hm.out]; exact hhl) hqX).symm
            have hHb : ∀ x ∈ H, x.length ≤ 2000 := by rw [hH]; exact takeH_bd Hbd.out (by omega)
            have hHf := takeH_full (h := hh) (by omega) hne hE.symm
            rw [← hH] at hHf
            have hHg : ∀ (_ : Goodh X hh), Goodh X H := fun hg => by
              have := (take_step X hg hqX).1
              rw [← Htr.out, ← hH] at this
              exact this
            have HHb := Lib.hid hHb
            have HHf := Lib.hid hHf
            have HHg := Lib.hid hHg
            have HE := Lib.hid (And.intro hE hH)
            have kzr := cell_regrown ccz
            clear hE hH hHb hHf hHg hne
            have hrs : ∀ w', Ext wr w' → w'.rangeAt tb 0 (fetchC tr A6 m c6) := fun w' hw' => fetch_range (HF.out.below (ext_below hw') HF.out.lt)
            have Hrs := Lib.hid hrs
            have k2r := cell_regrown K2.out
            clear hrs
            go_cut [21, 22] from 147 to 160 (fun td te wx => ∃ (B : Nat) (A8 : Option Addr) (c8 : Nat), td = .pointer (some ⟨B, 0, none⟩) ∧ te = .int .i64 0 ∧ wr.heap.size ≤ B ∧ Blk wx B 35 (fetchC tr A8 m c8).toArray ∧ TLst wx A8 m H ∧ Below wr.heap.size wr wx)
            case first =>
              refine wp_region_reads_tail 17 [0, 1, 2, 3, 4, 5, 6, 7, 8, 9, 10] 6 (by kernel_rfl) (List.take_append_drop _ _) rfl (by kernel_rfl) (by kernel_rfl) (by kernel_rfl) (by decide) (by kernel_rfl) (by kernel_rfl) (fun _ _ d _ _ h => by cases d <;> exact h) (by kernel_rfl) (by kernel_rfl) rfl ?_
              simp only [List.take_succ_cons, List.take_zero, List.drop_succ_cons, List.drop_zero, pickOps, List.getElem?_cons_zero, List.getElem?_cons_succ]
              refine wpQuiet_load_mid rfl 35 _ rfl tb 0 rfl (fetchC tr A6 m c6) _ Hrs.out hd35 hrow35 (by rw [fetchC_len]; kernel_rfl) ?_
              simp only [Act.put, List.setIfInBounds_toArray, List.set_cons_succ, List.set_cons_zero]
              repeat (go_big_quiet_step (fail))
              refine wpQuiet_nil ?_
              clear k2r
              refine chain_float (w0 := wr) (d := 21) (f := 15) (s := 16) (T := 35) (Z := (fetchC z32 none 0 0).toArray) (y := .tmp 159) (is1 := [12, 13, 14]) (by kernel_rfl) (fun _ _ d _ _ h => by cases d <;> exact h) (by kernel_rfl) rfl rfl rfl rfl (fun cells h => size35 _ (h.trans (by simp [fetchC_len]))) rfl rfl rfl rfl hi35 hz35 rfl [11] _ _ _ (by kernel_rfl) rfl (ext_drew (ext_refl _)) (by simp) ?_
              intro y1 W hW
              have hbW : Below wr.heap.size wr W := ((Below.refl _ wr).drew).trans hW
              simp only [Act.put, List.setIfInBounds_toArray, List.set_cons_succ, List.set_cons_zero, pickOps, List.getElem?_cons_zero, List.getElem?_cons_succ]
              have htk := Take_typed tr A6 m c6 hh (j : Int) v3.a v3.n v3.c (cutAt X j) la lnn lc (proofL ((cutL X).map leafS) j) W ((Hg.out.below Hw.out).below hbW) (HT.out.lst.below hbW) (by omega) (Hrz.out.below hbW) (by omega) (Hyl.out.below hbW) hylc (by omega)
              rw [← HE.out.1, ← HE.out.2] at htk
              have Htk2 := Lib.hid htk
              clear htk hW
              intro K hK
              go_simp
              refine Htk2.out.mono ?_
              rintro e W3 ⟨A8, c8, rfl, _, hT8, hb8⟩
              refine hK _ _ rfl (by simp) hb8 ?_
              have HT8 := Lib.hid (hT8 (HT.out.below hbW))
              have Hb8 := Lib.hid (hbW.trans (hb8.mono hbW.size))
              clear hK K Htk2 hT8 hb8 hbW
              intro y3 W4 hW4
              simp only [Act.put, List.setIfInBounds_toArray, List.set_cons_succ, List.set_cons_zero, chainP, finP, pickOps, List.getElem?_cons_zero, List.getElem?_cons_succ]
              repeat (go_big_quiet_step (fail))
              refine wpQuiet_nil ?_
              refine ⟨rfl, by simp, fun B W5 hB hb5 hblk => ⟨_, rfl, by simp [fetchC_len], fetch_one _ _ _ _, ?_⟩⟩
              have hbb := hW4.trans (hb5.mono hW4.size)
              have hb6 := Below.setRow (Hb8.out.trans (hbb.mono Hb8.out.size)) hB (fetchC tr A8 m c8).toArray
              have hT9 := ((HT8.out.below hbb).setRow hblk (cells := (fetchC tr A8 m c8).toArray))
              have hF9 : Blk (W5.setRow B (fetchC tr A8 m c8).toArray) B 35 (fetchC tr A8 m c8).toArray := setRow_heap _ _ _ _ _ _ hblk
              have Hb6 := Lib.hid hb6
              have HT9' := Lib.hid hT9
              have HF9 := Lib.hid hF9
              clear hb6 hW4 hb5 hblk Hb8 HT8 hbb hT9 hF9
              simp only [Exit.then, Act.put, List.setIfInBounds_toArray, List.set_cons_succ, List.set_cons_zero]
              go_wp2_with fail
              go_meet
              exact ⟨B, A8, c8, rfl, rfl, hB, HF9.out, HT9'.out, Hb6.out⟩
            case' rest => skip
            obtain ⟨nb, A7, c7, rfl, rfl, hlonb, hFn, hTn, hbn⟩ := hcut
            obtain ⟨wt, hwe⟩ : ∃ v, v = wc := ⟨_, rfl⟩
            subst hwe
            have HFnb := Lib.hid hFn
            have HTnb := Lib.hid hTn
            have c2x := (hbn.cell (World.block_lt_of_cell? wr _ K2.out)).trans K2.out
            replace K2 := Lib.hid c2x
            clear k2r Hrs hFn hTn c2x
            clear kzr ccz K2
            replace HF := Lib.hid (HF.out.below hbn HF.out.lt)
            replace HT := Lib.hid (HT.out.below hbn)
            replace Hw := Lib.hid (Hw.out.trans (hbn.mono Hw.out.size))
            clear hbn
            have htb := Htb.out
            have HFn := Lib.hid (show Blk (wt.setRow tb (fetchC tr A7 m c7).toArray) tb 35 (fetchC tr A7 m c7).toArray from setRow_heap _ _ _ _ _ _ HF.out)
            have HTn := Lib.hid (HTnb.out.setRow HF.out (cells := (fetchC tr A7 m c7).toArray))
            have HWn := Lib.hid (Below.setRow Hw.out (show wa.heap.size ≤ tb by omega) (fetchC tr A7 m c7).toArray)
            clear htb
            go_wp2_with (first | (refine wpList_load_mid rfl 35 (.tmp 21) rfl nb 0 rfl (fetchC tr A7 m c7) _ (fetch_range HFnb.out) hd35 hrow35 (by rw [fetchC_len]; kernel_rfl) ?_) | (refine wpList_store_row rfl 35 (.tmp 12) (.tmp 163) rfl tb (fetchC tr A7 m c7).toArray rfl rfl 35 (fetchC tr A6 m c6).toArray HF.out (size35 _ (by simp [fetchC_len])) (by simp [fetchC_len]) (fetch_one _ _ _ _) ?_))
            exact ⟨⟨j + 1, A7, c7, H, by go_num, by omega, HFn.out, HTn.out, HHb.out, Hcg.out.imp id HHg.out, fun t ht => (by
              by_cases htj : t = j
              · subst htj; exact HHf.out.1
              · exact HHf.out.2 t (Hfull.out t (by omega))), HWn.out⟩, by simp [intOf]; omega⟩
          · obtain rfl : j = m := by omega
            have hal := allB_of hhl Hfull.out
            have hfl : hh.flatten.length ≤ 1000000000 := by
              have := flat_bd Hbd.out
              rw [hhl] at this
              omega
            have hdl := Done_any tr A6 j c6 hh wr HT.out.lst (by omega) hfl
            rw [show doneL hh = hh.flatten by unfold doneL; rw [if_pos hal], show doneE hh = 0 by unfold doneE; rw [if_pos hal]] at hdl
            have hor : (decide (hh.flatten = X) || cl) = true := by
              rcases Hcg.out with h | h
              · rw [h, Bool.or_true]
              · have := good_full X h (fun t ht => Hfull.out t (by rw [Hm.out]; exact ht))
                rw [this, cutL_all, decide_eq_true rfl, Bool.true_or]
            obtain ⟨Y, hY⟩ : ∃ Y, Y = hh.flatten := ⟨_, rfl⟩
            rw [← hY] at hdl hor
            clear hY
            have Hdl := Lib.hid hdl
            have Hor := Lib.hid hor
            have HBe := Lib.hid (HB.out.trans (Hw.out.mono HB.out.size))
            clear hdl hor hal hfl hj
            go_upto_region 27 with (refine wpList_load_mid rfl 35 (.tmp 12) rfl tb 0 rfl (fetchC tr A6 j c6) _ (fetch_range HF.out) hd35 hrow35 (by rw [fetchC_len]; kernel_rfl) ?_)
            refine Hdl.out.mono ?_
            rintro e wz ⟨A12, c12, rfl, hr12, hb12⟩
            have hsm := R2Same_any A12 A2 Y.length L c12 c2 Y X wz hr12 ((HR2.out.below Hw.out).below hb12)
            have Hsm := Lib.hid hsm
            have HBf := Lib.hid (HBe.out.trans (hb12.mono HBe.out.size))
            clear Hdl hr12 hsm hb12 HBe
            go_wp2_with fail
            refine Hsm.out.mono ?_
            rintro e wy ⟨rfl, hby⟩
            have HBg := Lib.hid (HBf.out.trans (hby.mono HBf.out.size))
            clear Hsm hby HBf
            cases hd : decide (Y = X) with
            | true =>
              go_wp2_with fail
              go_ret
              exact ⟨rfl, HBg.out⟩
            | false =>
              have hct : cl = true := by have := Hor.out; rw [hd, Bool.false_or] at this; exact this
              subst hct
              go_wp2_with fail
              go_ret
              exact ⟨rfl, HBg.out⟩
      · have d3 : decide ((i : Int) < (ln : Int)) = false := decide_eq_false (by omega)
        have d4 : decide (i < ln) = false := decide_eq_false (by omega)
        clear hlt
        go_upto_region 20 with fail
        clear d3 d4
        obtain ⟨wo, hwo⟩ : ∃ wo, wo = wr := ⟨_, rfl⟩
        subst hwo
        go_loopw [20] (fun v20 wr => ∃ (j : Nat) (A' : Option Addr) (c' : Nat) (uu : List (List UInt8)), v20 = .int .i64 (j : Int) ∧ j ≤ m ∧ Blk wr tb 35 (fetchC tr A' m c').toArray ∧ TLst wr A' m uu ∧ (∀ x ∈ uu, x.length ≤ 2000) ∧ (cl = true ∨ Goodh X uu) ∧ (∀ t, t < j → (uu.getD t []).isEmpty = false) ∧ Below wa.heap.size wa wr) (fun v20 _ => m - (intOf v20).toNat)
        case atStart => exact ⟨0, A6, c6, hh, rfl, by omega, HF.out, HT.out, Hbd.out, Hcg.out, fun t h => by omega, Hw.out⟩
        case round =>
          clear HF HT Hbd Hcg Hw hhl hsz
          obtain ⟨j, A6, c6, hh, rfl, hjm, hF, hT, hbd6, hcg, hfull, hB⟩ := hrel
          have HF := Lib.hid hF
          have HT := Lib.hid hT
          have Hbd := Lib.hid hbd6
          have Hcg := Lib.hid hcg
          have Hfull := Lib.hid hfull
          have Hw := Lib.hid hB
          have hsz := hB.size
          have hhl := hT.lst.len
          clear hF hT hbd6 hcg hB hfull
          by_cases hj : j < m
          · obtain ⟨b3, o3, v3, cz, rfl, hcz, ccz, hrz, hvz⟩ := (HL3.out.below Hw.out).at_ hj
            have hqX : j < (X.length + 1023) / 1024 := by rw [← Hm.out]; exact hj
            rw [cutL_get X hqX] at hcz
            obtain rfl : cutAt X j = cz := Option.some.inj hcz
            have hcl := cutAt_len X j
            have hvn := hrz.len1
            have hvb : v3.n ≤ 1024 := by omega
            have Hrz := Lib.hid hrz
            have hne := cutAt_ne X hqX
            clear hcz hrz hcl
            go_upto_region 22 with fail
            obtain ⟨bk1, ok1, y2, hA5, hy, hcy⟩ := (HK.out.below Hw.out).rd.flat_ ckV_len (by omega) (show j < m by omega)
            obtain ⟨rfl, rfl⟩ : bk = bk1 ∧ ok = ok1 := by simp at hA5; exact hA5
            clear hA5
            obtain ⟨hyl, hylc, hln2⟩ := (HP.out.below Hw.out).at_ hy hqX HXl.out.2
            obtain ⟨yi, yd, ⟨la, lnn, lc⟩⟩ := y2
            simp only at hyl hylc hln2
            have k2 : wr.cell? ⟨bk, ok + j * 3 + 2, none⟩ = some (.slice la lnn lc) := by rw [Nat.add_assoc]; exact hcy 2 _ rfl
            have K2 := Lib.hid k2
            have Hyl := Lib.hid hyl
            clear hy hcy k2 hyl
            obtain ⟨H, hH⟩ : ∃ H, H = takeH tr hh (j : Int) (cutAt X j) (proofL ((cutL X).map leafS) j) := ⟨_, rfl⟩
            have hE : (0 : Int) = takeE tr hh (j : Int) (cutAt X j) (proofL ((cutL X).map leafS) j) := by rw [Htr.out]; exact (take_rightL X (by rw [← Hm.out]; exact hhl) hqX).symm
            have hHb : ∀ x ∈ H, x.length ≤ 2000 := by rw [hH]; exact takeH_bd Hbd.out (by omega)
            have hHf := takeH_full (h := hh) (by omega) hne hE.symm
            rw [← hH] at hHf
            have hHg : ∀ (_ : Goodh X hh), Goodh X H := fun hg => by
              have := (take_step X hg hqX).1
              rw [← Htr.out, ← hH] at this
              exact this
            have HHb := Lib.hid hHb
            have HHf := Lib.hid hHf
            have HHg := Lib.hid hHg
            have HE := Lib.hid (And.intro hE hH)
            have kzr := cell_regrown ccz
            clear hE hH hHb hHf hHg hne
            have hrs : ∀ w', Ext wr w' → w'.rangeAt tb 0 (fetchC tr A6 m c6) := fun w' hw' => fetch_range (HF.out.below (ext_below hw') HF.out.lt)
            have Hrs := Lib.hid hrs
            have k2r := cell_regrown K2.out
            clear hrs
            go_cut [21, 22] from 147 to 160 (fun td te wx => ∃ (B : Nat) (A8 : Option Addr) (c8 : Nat), td = .pointer (some ⟨B, 0, none⟩) ∧ te = .int .i64 0 ∧ wr.heap.size ≤ B ∧ Blk wx B 35 (fetchC tr A8 m c8).toArray ∧ TLst wx A8 m H ∧ Below wr.heap.size wr wx)
            case first =>
              refine wp_region_reads_tail 17 [0, 1, 2, 3, 4, 5, 6, 7, 8, 9, 10] 6 (by kernel_rfl) (List.take_append_drop _ _) rfl (by kernel_rfl) (by kernel_rfl) (by kernel_rfl) (by decide) (by kernel_rfl) (by kernel_rfl) (fun _ _ d _ _ h => by cases d <;> exact h) (by kernel_rfl) (by kernel_rfl) rfl ?_
              simp only [List.take_succ_cons, List.take_zero, List.drop_succ_cons, List.drop_zero, pickOps, List.getElem?_cons_zero, List.getElem?_cons_succ]
              refine wpQuiet_load_mid rfl 35 _ rfl tb 0 rfl (fetchC tr A6 m c6) _ Hrs.out hd35 hrow35 (by rw [fetchC_len]; kernel_rfl) ?_
              simp only [Act.put, List.setIfInBounds_toArray, List.set_cons_succ, List.set_cons_zero]
              repeat (go_big_quiet_step (fail))
              refine wpQuiet_nil ?_
              clear k2r
              refine chain_float (w0 := wr) (d := 21) (f := 15) (s := 16) (T := 35) (Z := (fetchC z32 none 0 0).toArray) (y := .tmp 159) (is1 := [12, 13, 14]) (by kernel_rfl) (fun _ _ d _ _ h => by cases d <;> exact h) (by kernel_rfl) rfl rfl rfl rfl (fun cells h => size35 _ (h.trans (by simp [fetchC_len]))) rfl rfl rfl rfl hi35 hz35 rfl [11] _ _ _ (by kernel_rfl) rfl (ext_drew (ext_refl _)) (by simp) ?_
              intro y1 W hW
              have hbW : Below wr.heap.size wr W := ((Below.refl _ wr).drew).trans hW
              simp only [Act.put, List.setIfInBounds_toArray, List.set_cons_succ, List.set_cons_zero, pickOps, List.getElem?_cons_zero, List.getElem?_cons_succ]
              have htk := Take_typed tr A6 m c6 hh (j : Int) v3.a v3.n v3.c (cutAt X j) la lnn lc (proofL ((cutL X).map leafS) j) W ((Hg.out.below Hw.out).below hbW) (HT.out.lst.below hbW) (by omega) (Hrz.out.below hbW) (by omega) (Hyl.out.below hbW) hylc (by omega)
              rw [← HE.out.1, ← HE.out.2] at htk
              have Htk2 := Lib.hid htk
              clear htk hW
              intro K hK
              go_simp
              refine Htk2.out.mono ?_
              rintro e W3 ⟨A8, c8, rfl, _, hT8, hb8⟩
              refine hK _ _ rfl (by simp) hb8 ?_
              have HT8 := Lib.hid (hT8 (HT.out.below hbW))
              have Hb8 := Lib.hid (hbW.trans (hb8.mono hbW.size))
              clear hK K Htk2 hT8 hb8 hbW
              intro y3 W4 hW4
              simp only [Act.put, List.setIfInBounds_toArray, List.set_cons_succ, List.set_cons_zero, chainP, finP, pickOps, List.getElem?_cons_zero, List.getElem?_cons_succ]
              repeat (go_big_quiet_step (fail))
              refine wpQuiet_nil ?_
              refine ⟨rfl, by simp, fun B W5 hB hb5 hblk => ⟨_, rfl, by simp [fetchC_len], fetch_one _ _ _ _, ?_⟩⟩
              have hbb := hW4.trans (hb5.mono hW4.size)
              have hb6 := Below.setRow (Hb8.out.trans (hbb.mono Hb8.out.size)) hB (fetchC tr A8 m c8).toArray
              have hT9 := ((HT8.out.below hbb).setRow hblk (cells := (fetchC tr A8 m c8).toArray))
              have hF9 : Blk (W5.setRow B (fetchC tr A8 m c8).toArray) B 35 (fetchC tr A8 m c8).toArray := setRow_heap _ _ _ _ _ _ hblk
              have Hb6 := Lib.hid hb6
              have HT9' := Lib.hid hT9
              have HF9 := Lib.hid hF9
              clear hb6 hW4 hb5 hblk Hb8 HT8 hbb hT9 hF9
              simp only [Exit.then, Act.put, List.setIfInBounds_toArray, List.set_cons_succ, List.set_cons_zero]
              go_wp2_with fail
              go_meet
              exact ⟨B, A8, c8, rfl, rfl, hB, HF9.out, HT9'.out, Hb6.out⟩
            case' rest => skip
            obtain ⟨nb, A7, c7, rfl, rfl, hlonb, hFn, hTn, hbn⟩ := hcut
            obtain ⟨wt, hwe⟩ : ∃ v, v = wc := ⟨_, rfl⟩
            subst hwe
            have HFnb := Lib.hid hFn
            have HTnb := Lib.hid hTn
            have c2x := (hbn.cell (World.block_lt_of_cell? wr _ K2.out)).trans K2.out
            replace K2 := Lib.hid c2x
            clear k2r Hrs hFn hTn c2x
            clear kzr ccz K2
            replace HF := Lib.hid (HF.out.below hbn HF.out.lt)
            replace HT := Lib.hid (HT.out.below hbn)
            replace Hw := Lib.hid (Hw.out.trans (hbn.mono Hw.out.size))
            clear hbn
            have htb := Htb.out
            have HFn := Lib.hid (show Blk (wt.setRow tb (fetchC tr A7 m c7).toArray) tb 35 (fetchC tr A7 m c7).toArray from setRow_heap _ _ _ _ _ _ HF.out)
            have HTn := Lib.hid (HTnb.out.setRow HF.out (cells := (fetchC tr A7 m c7).toArray))
            have HWn := Lib.hid (Below.setRow Hw.out (show wa.heap.size ≤ tb by omega) (fetchC tr A7 m c7).toArray)
            clear htb
            go_wp2_with (first | (refine wpList_load_mid rfl 35 (.tmp 21) rfl nb 0 rfl (fetchC tr A7 m c7) _ (fetch_range HFnb.out) hd35 hrow35 (by rw [fetchC_len]; kernel_rfl) ?_) | (refine wpList_store_row rfl 35 (.tmp 12) (.tmp 163) rfl tb (fetchC tr A7 m c7).toArray rfl rfl 35 (fetchC tr A6 m c6).toArray HF.out (size35 _ (by simp [fetchC_len])) (by simp [fetchC_len]) (fetch_one _ _ _ _) ?_))
            exact ⟨⟨j + 1, A7, c7, H, by go_num, by omega, HFn.out, HTn.out, HHb.out, Hcg.out.imp id HHg.out, fun t ht => (by
              by_cases htj : t = j
              · subst htj; exact HHf.out.1
              · exact HHf.out.2 t (Hfull.out t (by omega))), HWn.out⟩, by simp [intOf]; omega⟩
          · obtain rfl : j = m := by omega
            have hal := allB_of hhl Hfull.out
            have hfl : hh.flatten.length ≤ 1000000000 := by
              have := flat_bd Hbd.out
              rw [hhl] at this
              omega
            have hdl := Done_any tr A6 j c6 hh wr HT.out.lst (by omega) hfl
            rw [show doneL hh = hh.flatten by unfold doneL; rw [if_pos hal], show doneE hh = 0 by unfold doneE; rw [if_pos hal]] at hdl
            have hor : (decide (hh.flatten = X) || cl) = true := by
              rcases Hcg.out with h | h
              · rw [h, Bool.or_true]
              · have := good_full X h (fun t ht => Hfull.out t (by rw [Hm.out]; exact ht))
                rw [this, cutL_all, decide_eq_true rfl, Bool.true_or]
            obtain ⟨Y, hY⟩ : ∃ Y, Y = hh.flatten := ⟨_, rfl⟩
            rw [← hY] at hdl hor
            clear hY
            have Hdl := Lib.hid hdl
            have Hor := Lib.hid hor
            have HBe := Lib.hid (HB.out.trans (Hw.out.mono HB.out.size))
            clear hdl hor hal hfl hj
            go_upto_region 27 with (refine wpList_load_mid rfl 35 (.tmp 12) rfl tb 0 rfl (fetchC tr A6 j c6) _ (fetch_range HF.out) hd35 hrow35 (by rw [fetchC_len]; kernel_rfl) ?_)
            refine Hdl.out.mono ?_
            rintro e wz ⟨A12, c12, rfl, hr12, hb12⟩
            have hsm := R2Same_any A12 A2 Y.length L c12 c2 Y X wz hr12 ((HR2.out.below Hw.out).below hb12)
            have Hsm := Lib.hid hsm
            have HBf := Lib.hid (HBe.out.trans (hb12.mono HBe.out.size))
            clear Hdl hr12 hsm hb12 HBe
            go_wp2_with fail
            refine Hsm.out.mono ?_
            rintro e wy ⟨rfl, hby⟩
            have HBg := Lib.hid (HBf.out.trans (hby.mono HBf.out.size))
            clear Hsm hby HBf
            cases hd : decide (Y = X) with
            | true =>
              go_wp2_with fail
              go_ret
              exact ⟨rfl, HBg.out⟩
            | false =>
              have hct : cl = true := by have := Hor.out; rw [hd, Bool.false_or] at this; exact this
              subst hct
              go_wp2_with fail
              go_ret
              exact ⟨rfl, HBg.out⟩
end Go.Proofs.YthlecmmngldodaaDoor
