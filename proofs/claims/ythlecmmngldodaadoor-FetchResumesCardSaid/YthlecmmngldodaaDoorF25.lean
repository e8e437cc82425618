/- The law FetchMatchesReference. -/
import Derived.Test.YthlecmmngldodaaDoorF24
import Derived.Test.YthlecmmngldodaaDoorL1
namespace Go.Proofs.YthlecmmngldodaaDoor
open Go.RowKit Go.Sort

theorem arr4 (y : Arr 4) : ∃ b0 b1 b2 b3 : UInt8, arrC y = [byteV b0, byteV b1, byteV b2, byteV b3] := by
  obtain ⟨l, hl⟩ := y
  match l, hl with
  | [a, b, c, d], _ => exact ⟨a, b, c, d, rfl⟩
theorem takeH_bd {tr : Sum32} {h : List (List UInt8)} {i : Int} {d : List UInt8} {p : List Sum32} {K : Nat} (hh : ∀ x ∈ h, x.length ≤ K) (hd : d.length ≤ K) : ∀ x ∈ takeH tr h i d p, x.length ≤ K := by
  unfold takeH
  split
  · intro x hx
    rcases List.mem_or_eq_of_mem_set hx with h1 | rfl
    · exact hh x h1
    · exact hd
  · exact hh
theorem flat_bd {h : List (List UInt8)} {K : Nat} (hh : ∀ x ∈ h, x.length ≤ K) : h.flatten.length ≤ h.length * K := by
  induction h with
  | nil => simp
  | cons x xs ih =>
    have h1 := hh x (by simp)
    have h2 := ih fun y hy => hh y (by simp [hy])
    rw [List.flatten_cons, List.length_append, List.length_cons, Nat.add_mul]
    omega

set_option maxRecDepth 100000 in
set_option maxHeartbeats 8000000 in
theorem FetchMatches_any (A : Option Addr) (len cap : Nat) (bs : List UInt8) (x : Int) (Al : Option Addr) (ln lcp : Nat) (xs : List (Arr 4)) (w : World) (hg : Globs w) (hr : Rd w 1 A len (bs.map byteV)) (_hcap : len ≤ cap) (hx : 0 ≤ x ∧ x ≤ 65535) (hrl : Rd w 4 Al ln (xs.flatMap arrC)) (_hlc : ln ≤ lcp) :
    Calls Tryd.prog 3 #[.slice A len cap, .int .u16 x, .slice Al ln lcp] w fun e w' => e = .returned (.bool true) ∧ Below w.heap.size w w' := by
  obtain ⟨n, rfl⟩ : ∃ n : Nat, x = (n : Int) := ⟨x.toNat, by omega⟩
  obtain ⟨i35, hi35, hz35, hs35, hy35⟩ := info_parts info35
  obtain ⟨d35, hd35, hrow35⟩ := und35
  obtain ⟨i48, hi48, hz48, hs48, hy48⟩ := info_parts info48
  obtain ⟨d48, hd48, hrow48⟩ := und48
  have hln := hrl.le
  have Hr := Lib.hid hr
  have HAr := Lib.hid hrl
  have Hg := Lib.hid hg
  have Hs := Lib.hid (Sanity_any w hg)
  clear hr hg hrl
  go_enter Tryd.func3, Tryd.ntmps3
  go_wp2_with fail
  refine Hs.out.mono ?_
  rintro e w1 ⟨rfl, hb1⟩
  have HB := Lib.hid hb1
  clear Hs
  replace Hr := Lib.hid (Hr.out.below hb1)
  replace HAr := Lib.hid (HAr.out.below hb1)
  replace Hg := Lib.hid (Hg.out.below hb1)
  clear hb1
  have Hl := Lib.hid (Long_any A len cap n bs (by omega) w1 Hr.out)
  clear Hr
  go_wp2_with fail
  refine Hl.out.mono ?_
  rintro e w2 ⟨A2, c2, rfl, hc2, hr2, hb2⟩
  obtain ⟨X, hX⟩ : ∃ X, X = longL bs n := ⟨_, rfl⟩
  have hXl : X.length = 1 + n % 4000 := by rw [hX]; exact longL_len bs n
  rw [← hX] at hr2
  clear hX
  obtain ⟨L, hL⟩ : ∃ L, L = 1 + n % 4000 := ⟨_, rfl⟩
  have hL1 : 0 < L := by omega
  have hL2 : L ≤ 4000 := by omega
  rw [← hL] at hr2 hc2 hXl ⊢
  clear hL hx
  have Hc := Lib.hid (Cut_any A2 L c2 X w2 hr2 hL1 (by omega) hc2)
  have Hr2 := Lib.hid hr2
  have HXl := Lib.hid hXl
  clear hr2 Hl hXl
  replace HAr := Lib.hid (HAr.out.below hb2)
  replace Hg := Lib.hid (Hg.out.below hb2)
  replace HB := Lib.hid (HB.out.trans (hb2.mono HB.out.size))
  clear hb2
  go_wp2_with fail
  refine Hc.out.mono ?_
  rintro e w3 ⟨A3, c3, rfl, hc3, hl3, hb3⟩
  have HL3 := Lib.hid hl3
  clear hl3 Hc
  replace HAr := Lib.hid (HAr.out.below hb3)
  replace Hg := Lib.hid (Hg.out.below hb3)
  replace HB := Lib.hid (HB.out.trans (hb3.mono HB.out.size))
  replace Hr2 := Lib.hid (Hr2.out.below hb3)
  clear hb3
  have Hc := Lib.hid (RCut_any A2 L c2 X w3 Hr2.out hL1 (by omega) hc2)
  clear Hr2
  go_wp2_with fail
  refine Hc.out.mono ?_
  rintro e w4 ⟨A4, c4, rfl, hc4, hl4, hb4⟩
  have HL4 := Lib.hid hl4
  clear hl4 Hc
  replace HAr := Lib.hid (HAr.out.below hb4)
  replace Hg := Lib.hid (Hg.out.below hb4)
  replace HB := Lib.hid (HB.out.trans (hb4.mono HB.out.size))
  replace HL3 := Lib.hid (HL3.out.below hb4)
  clear hb4
  obtain ⟨m, hm⟩ : ∃ m, m = (L + 1023) / 1024 := ⟨_, rfl⟩
  rw [← hm] at HL3 HL4 hc3 hc4 ⊢
  have hm1 : 1 ≤ m := by omega
  have hm4 : m ≤ 4 := by omega
  have Hm := Lib.hid (show m = (X.length + 1023) / 1024 by rw [HXl.out]; exact hm)
  have hcs : ∀ c ∈ cutL X, c.length ≤ 8796093021000 := fun c hc => by
    obtain ⟨k, hk, rfl⟩ := List.mem_iff_getElem.1 hc
    rw [cutL_len] at hk
    have h1 := cutL_get X hk
    rw [List.getElem?_eq_getElem (by rw [cutL_len]; exact hk)] at h1
    rw [Option.some.inj h1, cutAt_len]; omega
  have Hcs := Lib.hid hcs
  have hsc := SameChunks_any A3 A4 m m c3 c4 (cutL X) (cutL X) w4 HL3.out HL4.out
  rw [decide_eq_true rfl] at hsc
  have Hsc := Lib.hid hsc
  clear hsc hcs hm HL3 hL1 hL2 hc2 hc3
  go_wp2_with fail
  refine Hsc.out.mono ?_
  rintro e w5 ⟨rfl, hb5⟩
  clear Hsc
  replace HAr := Lib.hid (HAr.out.below hb5)
  replace Hg := Lib.hid (Hg.out.below hb5)
  replace HB := Lib.hid (HB.out.trans (hb5.mono HB.out.size))
  replace HL4 := Lib.hid (HL4.out.below hb5)
  clear hb5
  obtain ⟨tr, htr⟩ : ∃ tr, tr = root (cutL X) := ⟨_, rfl⟩
  have hrl := Release_any A4 m c4 (cutL X) w5 HL4.out (by omega) Hcs.out
  rw [← htr] at hrl
  have Hrl := Lib.hid hrl
  have Htr := Lib.hid htr
  clear hrl htr
  go_upto_region 7 with fail
  go_wp2_with fail
  refine Hrl.out.mono ?_
  rintro e w6 ⟨rfl, hb6⟩
  clear Hrl
  replace HAr := Lib.hid (HAr.out.below hb6)
  replace Hg := Lib.hid (Hg.out.below hb6)
  replace HB := Lib.hid (HB.out.trans (hb6.mono HB.out.size))
  replace HL4 := Lib.hid (HL4.out.below hb6)
  clear hb6
  have Hn := Lib.hid (New_typed (relC 0 0 0 m tr) m tr (relC_n _ _ _ _ _) (relC_t _ _ _ _ _) hm1 (by omega) w6)
  go_upto_region 8 with fail
  refine Hn.out.mono ?_
  rintro e w7 ⟨g7, rfl, hk7, hb7⟩
  have HT := Lib.hid (tlst_empty hk7 (by omega))
  clear hk7 Hn
  replace HAr := Lib.hid (HAr.out.below hb7)
  replace Hg := Lib.hid (Hg.out.below hb7)
  replace HB := Lib.hid (HB.out.trans (hb7.mono HB.out.size))
  replace HL4 := Lib.hid (HL4.out.below hb7)
  clear hb7
  have hn_ : Blk (w7.alloc (.cells (fetchC z32 none 0 0).toArray 35)) w7.heap.size 35 (fetchC z32 none 0 0).toArray := Blk.new _ _ _
  have Hn_ := Lib.hid hn_
  clear hn_
  go_upto_region 8 with (first | (refine wpList_alloc0 rfl 35 rfl (fetchC z32 none 0 0).toArray _ i35 hi35 hz35 rfl ?_; simp only [Act.put, List.setIfInBounds_toArray, List.set_cons_succ, List.set_cons_zero]) | (refine wpList_store_row rfl 35 (.tmp 13) (.tmp 54) rfl w7.heap.size (fetchC tr (some ⟨g7, 0, none⟩) m m).toArray rfl rfl 35 (fetchC z32 none 0 0).toArray Hn_.out (size35 _ (by simp [fetchC_len])) (by simp [fetchC_len]) (fetch_one _ _ _ _) ?_))
  obtain ⟨w8, h_⟩ : ∃ v, v = (w7.alloc (.cells (fetchC z32 none 0 0).toArray 35)).setRow w7.heap.size (fetchC tr (some ⟨g7, 0, none⟩) m m).toArray := ⟨_, rfl⟩
  have hb_ : Below w7.heap.size w7 w8 := by rw [h_]; exact Below.setRow ((Below.refl _ _).alloc (Nat.le_refl _) _) (Nat.le_refl _) _
  have hF_ : Blk w8 w7.heap.size 35 (fetchC tr (some ⟨g7, 0, none⟩) m m).toArray := by rw [h_]; exact setRow_heap _ _ _ _ _ _ Hn_.out
  rw [← h_]
  clear h_ Hn_
  obtain ⟨fb, h_⟩ : ∃ v, v = w7.heap.size := ⟨_, rfl⟩
  rw [← h_] at hF_ ⊢
  have HFfb := Lib.hid hF_
  have Hfb := Lib.hid h_
  clear hF_ h_
  replace HAr := Lib.hid (HAr.out.below hb_)
  replace Hg := Lib.hid (Hg.out.below hb_)
  replace HB := Lib.hid (HB.out.trans (hb_.mono HB.out.size))
  replace HL4 := Lib.hid (HL4.out.below hb_)
  replace HT := Lib.hid (HT.out.below hb_)
  clear hb_
  have hrl := Release_any A4 m c4 (cutL X) w8 HL4.out (by omega) Hcs.out
  rw [← Htr.out] at hrl
  have Hrl := Lib.hid hrl
  clear hrl
  go_wp2_with fail
  refine Hrl.out.mono ?_
  rintro e w9 ⟨rfl, hb9⟩
  clear Hrl
  replace HAr := Lib.hid (HAr.out.below hb9)
  replace Hg := Lib.hid (Hg.out.below hb9)
  replace HB := Lib.hid (HB.out.trans (hb9.mono HB.out.size))
  replace HL4 := Lib.hid (HL4.out.below hb9)
  replace HT := Lib.hid (HT.out.below hb9)
  replace HFfb := Lib.hid (HFfb.out.below hb9 HFfb.out.lt)
  clear hb9
  have Hn := Lib.hid (RNew_typed (relC 0 0 0 m tr) m tr (relC_n _ _ _ _ _) (relC_t _ _ _ _ _) hm1 (by omega) w9)
  go_upto_region 9 with fail
  refine Hn.out.mono ?_
  rintro e wa ⟨ga, rfl, hka, hba⟩
  have HTa := Lib.hid (tlst_empty hka (by omega))
  clear hka Hn
  replace HAr := Lib.hid (HAr.out.below hba)
  replace Hg := Lib.hid (Hg.out.below hba)
  replace HB := Lib.hid (HB.out.trans (hba.mono HB.out.size))
  replace HL4 := Lib.hid (HL4.out.below hba)
  replace HT := Lib.hid (HT.out.below hba)
  replace HFfb := Lib.hid (HFfb.out.below hba HFfb.out.lt)
  clear hba
  have HL0 := HL4
  have Hb0 := Lib.hid (Below.refl wa.heap.size wa)
  have Hg0 := Hg
  have HAr0 := HAr
  have HB0 := HB
  have hn_ : Blk (wa.alloc (.cells (fetchC z32 none 0 0).toArray 35)) wa.heap.size 35 (fetchC z32 none 0 0).toArray := Blk.new _ _ _
  have Hn_ := Lib.hid hn_
  clear hn_
  go_upto_region 9 with (first | (refine wpList_alloc0 rfl 35 rfl (fetchC z32 none 0 0).toArray _ i35 hi35 hz35 rfl ?_; simp only [Act.put, List.setIfInBounds_toArray, List.set_cons_succ, List.set_cons_zero]) | (refine wpList_store_row rfl 35 (.tmp 15) (.tmp 60) rfl wa.heap.size (fetchC tr (some ⟨ga, 0, none⟩) m m).toArray rfl rfl 35 (fetchC z32 none 0 0).toArray Hn_.out (size35 _ (by simp [fetchC_len])) (by simp [fetchC_len]) (fetch_one _ _ _ _) ?_))
  obtain ⟨wb, h_⟩ : ∃ v, v = (wa.alloc (.cells (fetchC z32 none 0 0).toArray 35)).setRow wa.heap.size (fetchC tr (some ⟨ga, 0, none⟩) m m).toArray := ⟨_, rfl⟩
  have hb_ : Below wa.heap.size wa wb := by rw [h_]; exact Below.setRow ((Below.refl _ _).alloc (Nat.le_refl _) _) (Nat.le_refl _) _
  have hF_ : Blk wb wa.heap.size 35 (fetchC tr (some ⟨ga, 0, none⟩) m m).toArray := by rw [h_]; exact setRow_heap _ _ _ _ _ _ Hn_.out
  rw [← h_]
  clear h_ Hn_
  obtain ⟨tb, h_⟩ : ∃ v, v = wa.heap.size := ⟨_, rfl⟩
  rw [← h_] at hF_ ⊢
  have HFtb := Lib.hid hF_
  have Htb := Lib.hid h_
  clear hF_ h_
  replace HL4 := Lib.hid (HL4.out.below hb_)
  replace HT := Lib.hid (HT.out.below hb_)
  replace HTa := Lib.hid (HTa.out.below hb_)
  replace HFfb := Lib.hid (HFfb.out.below hb_ HFfb.out.lt)
  replace Hb0 := Lib.hid (Hb0.out.trans (hb_.mono Hb0.out.size))
  clear hb_
  have hsm := RSame_any tr tr (some ⟨g7, 0, none⟩) (some ⟨ga, 0, none⟩) m m m m (List.replicate m []) (List.replicate m []) wb HT.out.lst HTa.out.lst
  rw [decide_eq_true (show tr = tr ∧ List.replicate m ([] : List UInt8) = List.replicate m [] from ⟨rfl, rfl⟩)] at hsm
  have Hsm := Lib.hid hsm
  clear hsm
  go_wp2_with (first | (refine wpList_load_mid_g (by first | rfl | simp [Region.wanted, yielded]) 35 (.tmp 13) rfl fb 0 rfl (fetchC tr (some ⟨g7, 0, none⟩) m m) _ (fetch_range HFfb.out) hd35 hrow35 (by rw [fetchC_len]; kernel_rfl) ?_) | (refine wpList_load_mid_g (by first | rfl | simp [Region.wanted, yielded]) 35 (.tmp 15) rfl tb 0 rfl (fetchC tr (some ⟨ga, 0, none⟩) m m) _ (fetch_range HFtb.out) hd35 hrow35 (by rw [fetchC_len]; kernel_rfl) ?_))
  refine Hsm.out.mono ?_
  rintro e wk ⟨rfl, hbc⟩
  clear Hsm HFfb Hfb HT HL4
  replace HTa := Lib.hid (HTa.out.below hbc)
  replace HFtb := Lib.hid (HFtb.out.below hbc HFtb.out.lt)
  replace Hb0 := Lib.hid (Hb0.out.trans (hbc.mono Hb0.out.size))
  clear hbc
  have Hpf := Lib.hid (Proofs_typed A4 m c4 (cutL X) wa wk HL0.out Hb0.out (by omega) Hcs.out)
  go_upto_region 11 with fail
  go_wp2_with fail
  refine Hpf.out.mono ?_
  rintro e wd ⟨A5, c5, ks, rfl, hc5, hks, hk5, hkb, hp5, hbd⟩
  have HK := Lib.hid hk5
  have HP := Lib.hid hp5
  have hcb := hbd.size
  have htc := HFtb.out.lt
  have hkt : ∀ b off, A5 = some ⟨b, off, none⟩ → b ≠ tb := fun b off e => by have := hkb b off (by omega) e; omega
  have Hkt := Lib.hid hkt
  have Htc := Lib.hid htc
  clear hk5 hp5 Hpf hkb hcb hkt htc
  replace HTa := Lib.hid (HTa.out.below hbd)
  replace HFtb := Lib.hid (HFtb.out.below hbd HFtb.out.lt)
  replace Hb0 := Lib.hid (Hb0.out.trans (hbd.mono Hb0.out.size))
  clear hbd
  go_wp2_with fail
  go_loopw [18] (fun v18 wr => ∃ (i : Nat) (A' : Option Addr) (c' : Nat) (hh : List (List UInt8)), v18 = .int .i64 (i : Int) ∧ i ≤ 8 ∧ Blk wr tb 35 (fetchC tr A' m c').toArray ∧ TLst wr A' m hh ∧ (∀ x ∈ hh, x.length ≤ 2000) ∧ TRd wr 48 3 A5 m (ks.flatMap ckV) ∧ Pfs wr wa.heap.size ks (cutL X) ∧ Below wa.heap.size wa wr) (fun v18 _ => 8 - (intOf v18).toNat)
  case atStart => exact ⟨0, _, m, List.replicate m [], rfl, by omega, HFtb.out, HTa.out, fun x hx => by rw [List.eq_of_mem_replicate hx]; simp, HK.out, HP.out, Hb0.out⟩
  case round =>
    obtain ⟨i, A6, c6, hh, rfl, hi8, hF, hT, hbd6, hK, hP, hB⟩ := hrel
    have HF := Lib.hid hF
    have HT := Lib.hid hT
    have Hbd := Lib.hid hbd6
    have HK := Lib.hid hK
    have HP := Lib.hid hP
    have Hw := Lib.hid hB
    have hsz := hB.size
    have hhl := hT.lst.len
    clear hF hT hbd6 hK hP hB
    by_cases hlt : i < ln ∧ i < 8
    · obtain ⟨a1, a2⟩ := hlt
      obtain ⟨bl, ol, ya, rfl, hya, cya⟩ := (HAr0.out.below Hw.out).flat_ arrC_len (by omega) a1
      obtain ⟨b0, b1, b2, b3, hy4⟩ := arr4 ya
      rw [hy4] at cya
      obtain ⟨q, hq⟩ : ∃ q, q = b0.toNat % m := ⟨_, rfl⟩
      have hqm : q < m := by rw [hq]; exact Nat.mod_lt _ (by omega)
      have hqi : (b0.toNat : Int) % (m : Int) = (q : Int) := by rw [hq]; omega
      have hx0 := b0.toNat_lt
      obtain ⟨bk, ok, y, rfl, hy, hcy⟩ := HK.out.rd.flat_ ckV_len (by omega) hqm
      obtain ⟨hyi, c, hc, hyd, hydc, _, hyl, hylc⟩ := HP.out q y hy
      rw [cutL_get X (by rw [← Hm.out]; exact hqm)] at hc
      obtain rfl : cutAt X q = c := Option.some.inj hc
      have hcl := cutAt_len X q
      have hyn := hyd.len1
      have hpl : (proofL ((cutL X).map leafS) q).length ≤ 2 := proofL_length 2 _ _ (by rw [List.length_map, cutL_len, ← Hm.out]; omega)
      have hyl' := hyl.rd.lenf sumC_len (by omega)
      have hxl := HXl.out
      have hmm := Hm.out
      have hdn : 1 ≤ y.d.n ∧ y.d.n ≤ 1024 := by omega
      have hln2 : y.l.n ≤ 2 := by omega
      obtain ⟨yi, ⟨da, dn, dc⟩, ⟨la, lnn, lc⟩⟩ := y
      simp only at hyi hyd hydc hyl hylc hyn hyl' hdn hln2
      subst hyi
      have hrk : ∀ w', Ext wr w' → w'.rangeAt bk (ok + q * 3) (ckV ⟨(q : Int), ⟨da, dn, dc⟩, ⟨la, lnn, lc⟩⟩) := fun w' hw' j v hv => by
        have := hcy j v hv
        rw [← Nat.add_assoc] at this
        exact ((ext_below hw').cell (World.block_lt_of_cell? wr _ this)).trans this
      have hr4 : ∀ w', Ext wr w' → w'.rangeAt bl (ol + i * 4) [byteV b0, byteV b1, byteV b2, byteV b3] := fun w' hw' j v hv => by
        have := cya j v hv
        rw [← Nat.add_assoc] at this
        exact ((ext_below hw').cell (World.block_lt_of_cell? wr _ this)).trans this
      have e0 : wr.cell? ⟨bl, ol + i * 4, none⟩ = some (.int .u8 (b0.toNat : Int)) := cya 0 (byteV b0) rfl
      have e0r := cell_regrown e0
      have Hrk := Lib.hid hrk
      have Hr4 := Lib.hid hr4
      have Hyd := Lib.hid hyd
      have Hyl := Lib.hid hyl
      have hmq : (wrap64 (b0.toNat : Int)).tmod (m : Int) = (q : Int) := by
        rw [show wrap64 (b0.toNat : Int) = (b0.toNat : Int) from by unfold wrap64; omega, Int.tmod_eq_emod_of_nonneg (by omega), hqi]
      clear hrk hr4 hyd hyl hq e0 cya hcy hy hc hcl hyn hpl hyl' hxl hmm hya hy4
      have d3 : decide ((i : Int) < 8) = true := decide_eq_true (by omega)
      go_upto_region 15 with fail
      try simp only [Act.put]
      go_cut [19] from 82 to 98 (fun t19 wx => ∃ (B : Nat) (z : Ck), t19 = .pointer (some ⟨B, 0, none⟩) ∧ wr.heap.size ≤ B ∧ Blk wx B 48 (ckV z).toArray ∧ z.i = bentN (q : Int) b1 b3 ∧
          TRd wx 5 1 z.d.a z.d.n ((bentD (cutAt X q) b1 b2 b3).map byteV) ∧ z.d.n ≤ z.d.c ∧ TRd wx 33 32 z.l.a z.l.n ((bentL (proofL ((cutL X).map leafS) q) b1 b2 b3).flatMap sumC) ∧ z.l.n ≤ z.l.c ∧ Below wr.heap.size wr wx)
      case first =>
        refine wp_region_reads_tail 18 [0, 1, 2, 3, 4, 5, 6, 7, 8, 9, 10, 11, 12, 13, 14, 15] 2 (by kernel_rfl) (List.take_append_drop _ _) rfl (by kernel_rfl) (by kernel_rfl) (by kernel_rfl) (by decide) (by kernel_rfl) (by kernel_rfl) (fun _ _ d _ _ h => by cases d <;> exact h) (by kernel_rfl) (by kernel_rfl) rfl ?_
        simp only [List.take_succ_cons, List.take_zero, List.drop_succ_cons, List.drop_zero, pickOps, List.getElem?_cons_zero, List.getElem?_cons_succ]
        repeat (first | go_big_quiet_step (fail) | (refine wpQuiet_load_mid rfl 48 _ rfl bk (ok + q * 3) rfl (ckV ⟨(q : Int), ⟨da, dn, dc⟩, ⟨la, lnn, lc⟩⟩) _ Hrk.out hd48 hrow48 (by kernel_rfl) ?_; simp only [Act.put, List.setIfInBounds_toArray, List.set_cons_succ, List.set_cons_zero]) | (refine wpQuiet_load_mid rfl 50 _ rfl bl (ol + i * 4) rfl [byteV b0, byteV b1, byteV b2, byteV b3] _ Hr4.out und50 rfl (by kernel_rfl) ?_; simp only [Act.put, List.setIfInBounds_toArray, List.set_cons_succ, List.set_cons_zero]))
        refine wpQuiet_nil ?_
        clear hmq hqi e0r
        refine web_start0 (fs := [floVar 17 19 48 (ckV zck).toArray]) [.act 16 []] _ _ (by kernel_rfl) (fun _ _ d _ _ h => by cases d <;> exact h) ⟨⟨_, rfl, flo_var rfl rfl rfl _ i48 hi48 hz48 rfl⟩, trivial⟩ (by decide) (by decide) (by kernel_rfl) (by kernel_rfl) (ext_drew (ext_refl _)) (by intro F hF; simp at hF; subst hF; simp) 2 (by decide) (by kernel_rfl) ?_
        intro v1 W hW _ o ho K hK
        cases ho
        have hbW : Below wr.heap.size wr W := ((Below.refl _ wr).drew).trans hW
        simp only [putS, List.foldl_cons, List.foldl_nil, Act.put, List.setIfInBounds_toArray, List.set_cons_succ, List.set_cons_zero]
        have Hbt := Lib.hid (Bent_any (q : Int) da dn dc (cutAt X q) la lnn lc (proofL ((cutL X).map leafS) q) b0 b1 b2 b3 W (by omega) (Hyd.out.below hbW) (by omega) (Hyl.out.rd.below hbW) (by omega))
        unfold StepP
        go_simp
        refine Hbt.out.mono ?_
        rintro e W7 ⟨z, rfl, hz1, hz2, hz3, hz4, hz5, hb7⟩
        refine hK _ _ (by intro F hF; simp at hF; subst hF; exact ⟨rfl, by simp [Act.put]⟩) hb7 ?_
        have hW7 := hbW.trans (hb7.mono hbW.size)
        clear hK K Hbt
        intro v5 W8 hW8 hall
        obtain ⟨B, hvB, hBw, hBb⟩ := hall (floVar 17 19 48 (ckV zck).toArray) (by simp) (floVar 17 19 48 (ckV zck).toArray) (by simp) rfl
        have hvB' : v5 17 = .pointer (some ⟨B, 0, none⟩) := hvB
        have hb8 := hW7.trans (hW8.mono hW7.size)
        have hset := Below.setRow hb8 hBw (ckV z).toArray
        have HKB := (KeptIn.refl (fun k => k ≠ B) W8).setRow (g := B) (fun h => h rfl) (ckV z).toArray
        have hz2' := (hz2.below hW8).kept hBb (by decide) HKB
        have hz4' := (hz4.below hW8).kept hBb (by decide) HKB
        have hB' : Blk (W8.setRow B (ckV z).toArray) B 48 (ckV z).toArray := setRow_heap _ _ _ _ _ _ hBb
        have Hset := Lib.hid hset
        have Hz2 := Lib.hid hz2'
        have Hz4 := Lib.hid hz4'
        have HB' := Lib.hid hB'
        simp only [Exit.then, putS, List.foldl_cons, List.foldl_nil, Act.put, List.setIfInBounds_toArray, List.set_cons_succ, List.set_cons_zero]
        rw [hvB']
        refine wpList_store_row rfl 48 (.tmp 19) (.tmp 98) rfl B (ckV z).toArray rfl rfl 48 (ckV zck).toArray hBb (size48 _ rfl) rfl (ck_all _) ?_
        refine wpList_nil ?_
        clear hset HKB hz2 hz4 hz2' hz4' hB' hb7 hb8 hW8 hW7 hall hvB hvB' hBb hbW hW
        go_wp2_with fail
        go_meet
        exact ⟨B, z, rfl, hBw, HB'.out, hz1, Hz2.out, hz3, Hz4.out, hz5, Hset.out⟩
      case' rest => skip
      obtain ⟨B, z, rfl, hBw, hB6, hz1, hz2, hz3, hz4, hz5, hb6⟩ := hcut
      clear hmq hqi e0r Hrk Hr4 Hyd Hyl
      obtain ⟨ws, hws⟩ : ∃ v, v = wc := ⟨_, rfl⟩
      subst hws
      obtain ⟨zi, ⟨za, zn, zc⟩, ⟨yb, yn, yc⟩⟩ := z
      simp only at hz1 hz2 hz3 hz4 hz5
      obtain ⟨D, hD⟩ : ∃ D, D = bentD (cutAt X q) b1 b2 b3 := ⟨_, rfl⟩
      obtain ⟨Pf, hPf⟩ : ∃ Pf, Pf = bentL (proofL ((cutL X).map leafS) q) b1 b2 b3 := ⟨_, rfl⟩
      rw [← hD] at hz2
      rw [← hPf] at hz4
      have hDl : D.length ≤ 1025 := by
        rw [hD]
        have h1 := bentD_len (cutAt X q) b1 b2 b3
        have h2 := cutAt_len X q
        omega
      have hzn := hz2.rd.len1
      have hzi : -3 ≤ zi ∧ zi ≤ 300 := by
        rw [hz1]
        have := bentN_bd (q : Int) b1 b3
        omega
      have hzn2 : zn ≤ 1025 := by omega
      have HZ := Lib.hid hB6
      have Hz2 := Lib.hid hz2
      have Hz4 := Lib.hid hz4
      have HDl := Lib.hid hDl
      have Hsz := Lib.hid hsz
      clear hz1 hD hPf hDl hzn hB6 hz2 hz4 hqm hx0 hBw hsz hdn hln2 hydc hylc
      replace HF := Lib.hid (HF.out.below hb6 HF.out.lt)
      replace HT := Lib.hid (HT.out.below hb6)
      replace HK := Lib.hid (HK.out.below hb6)
      replace HP := Lib.hid (HP.out.below hb6)
      replace Hw := Lib.hid (Hw.out.trans (hb6.mono Hw.out.size))
      clear hb6
      obtain ⟨E, hE⟩ : ∃ E, E = takeE tr hh zi D Pf := ⟨_, rfl⟩
      obtain ⟨H, hH⟩ : ∃ H, H = takeH tr hh zi D Pf := ⟨_, rfl⟩
      have hHb : ∀ x ∈ H, x.length ≤ 2000 := by rw [hH]; exact takeH_bd Hbd.out (by have := HDl.out; omega)
      have htk := Take_typed tr A6 m c6 hh zi za zn zc D yb yn yc Pf ws (Hg0.out.below Hw.out) HT.out.lst (by omega) Hz2.out.rd (by omega) Hz4.out.rd hz5 (by omega)
      rw [← hE, ← hH] at htk
      have Htk := Lib.hid htk
      have HE := Lib.hid hE
      have HH := Lib.hid hH
      have HHb := Lib.hid hHb
      clear htk hE hH hHb
      have k0 : ws.cell? ⟨B, 0, none⟩ = some (.int .i64 zi) := by rw [HZ.out.cell]; rfl
      have k1 : ws.cell? ⟨B, 1, none⟩ = some (.slice za zn zc) := by rw [HZ.out.cell]; rfl
      have k2 : ws.cell? ⟨B, 2, none⟩ = some (.slice yb yn yc) := by rw [HZ.out.cell]; rfl
      go_upto_region 17 with (refine wpList_load_mid rfl 35 (.tmp 15) rfl tb 0 rfl (fetchC tr A6 m c6) _ (fetch_range HF.out) hd35 hrow35 (by rw [fetchC_len]; kernel_rfl) ?_)
      refine Htk.out.mono ?_
      rintro e wt ⟨A7, c7, rfl, hl7, _, hb7⟩
      have HA := Lib.hid hl7
      clear hl7 Htk k0 k1 k2
      replace HF := Lib.hid (HF.out.below hb7 HF.out.lt)
      replace HT := Lib.hid (HT.out.below hb7)
      replace HK := Lib.hid (HK.out.below hb7)
      replace HP := Lib.hid (HP.out.below hb7)
      replace Hw := Lib.hid (Hw.out.trans (hb7.mono Hw.out.size))
      replace HZ := Lib.hid (HZ.out.below hb7 HZ.out.lt)
      replace Hz2 := Lib.hid (Hz2.out.below hb7)
      replace Hz4 := Lib.hid (Hz4.out.below hb7)
      clear hb7
      have hn_ : Blk (wt.alloc (.cells (fetchC z32 none 0 0).toArray 35)) wt.heap.size 35 (fetchC z32 none 0 0).toArray := Blk.new _ _ _
      have Hn_ := Lib.hid hn_
      clear hn_
      go_upto_region 17 with (first | (refine wpList_alloc0 rfl 35 rfl (fetchC z32 none 0 0).toArray _ i35 hi35 hz35 rfl ?_; simp only [Act.put, List.setIfInBounds_toArray, List.set_cons_succ, List.set_cons_zero]) | (refine wpList_store_row rfl 35 (.tmp 20) (.tmp 108) rfl wt.heap.size (fetchC tr A7 m c7).toArray rfl rfl 35 (fetchC z32 none 0 0).toArray Hn_.out (size35 _ (by simp [fetchC_len])) (by simp [fetchC_len]) (fetch_one _ _ _ _) ?_))
      obtain ⟨wu, h_⟩ : ∃ v, v = (wt.alloc (.cells (fetchC z32 none 0 0).toArray 35)).setRow wt.heap.size (fetchC tr A7 m c7).toArray := ⟨_, rfl⟩
      have hb_ : Below wt.heap.size wt wu := by rw [h_]; exact Below.setRow ((Below.refl _ _).alloc (Nat.le_refl _) _) (Nat.le_refl _) _
      have hF_ : Blk wu wt.heap.size 35 (fetchC tr A7 m c7).toArray := by rw [h_]; exact setRow_heap _ _ _ _ _ _ Hn_.out
      rw [← h_]
      clear h_ Hn_
      obtain ⟨nb, h_⟩ : ∃ v, v = wt.heap.size := ⟨_, rfl⟩
      rw [← h_] at hF_ ⊢
      have HFnb := Lib.hid hF_
      have Hnb := Lib.hid h_
      clear hF_ h_
      replace HA := Lib.hid (HA.out.below hb_)
      replace HF := Lib.hid (HF.out.below hb_ HF.out.lt)
      replace HT := Lib.hid (HT.out.below hb_)
      replace HK := Lib.hid (HK.out.below hb_)
      replace HP := Lib.hid (HP.out.below hb_)
      replace Hw := Lib.hid (Hw.out.trans (hb_.mono Hw.out.size))
      replace HZ := Lib.hid (HZ.out.below hb_ HZ.out.lt)
      replace Hz2 := Lib.hid (Hz2.out.below hb_)
      replace Hz4 := Lib.hid (Hz4.out.below hb_)
      clear hb_
      have hrt := RTake_typed tr A6 m c6 hh zi za zn zc D yb yn yc Pf wu HT.out (by omega) Hz2.out.rd (by omega) Hz4.out.rd (by omega)
      rw [← HE.out, ← HH.out] at hrt
      have Hrt := Lib.hid hrt
      clear hrt
      go_upto_region 18 with (first | (refine wpList_load_mid rfl 35 (.tmp 15) rfl tb 0 rfl (fetchC tr A6 m c6) _ (fetch_range HF.out) hd35 hrow35 (by rw [fetchC_len]; kernel_rfl) ?_) | (refine wpList_load_mid rfl 48 (.tmp 19) rfl B 0 rfl (ckV ⟨zi, ⟨za, zn, zc⟩, ⟨yb, yn, yc⟩⟩) _ (Blk.range HZ.out) hd48 hrow48 (by kernel_rfl) ?_))
      refine Hrt.out.mono ?_
      rintro e wv ⟨A8, c8, rfl, hT8, hb8⟩
      have HT8 := Lib.hid hT8
      clear hT8 Hrt HZ Hz2 Hz4
      replace HA := Lib.hid (HA.out.below hb8)
      replace HF := Lib.hid (HF.out.below hb8 HF.out.lt)
      replace HT := Lib.hid (HT.out.below hb8)
      replace HK := Lib.hid (HK.out.below hb8)
      replace HP := Lib.hid (HP.out.below hb8)
      replace Hw := Lib.hid (Hw.out.trans (hb8.mono Hw.out.size))
      replace HFnb := Lib.hid (HFnb.out.below hb8 HFnb.out.lt)
      clear hb8
      have hn_ : Blk (wv.alloc (.cells (fetchC z32 none 0 0).toArray 35)) wv.heap.size 35 (fetchC z32 none 0 0).toArray := Blk.new _ _ _
      have Hn_ := Lib.hid hn_
      clear hn_
      go_upto_region 18 with (first | (refine wpList_alloc0 rfl 35 rfl (fetchC z32 none 0 0).toArray _ i35 hi35 hz35 rfl ?_; simp only [Act.put, List.setIfInBounds_toArray, List.set_cons_succ, List.set_cons_zero]) | (refine wpList_store_row rfl 35 (.tmp 22) (.tmp 114) rfl wv.heap.size (fetchC tr A8 m c8).toArray rfl rfl 35 (fetchC z32 none 0 0).toArray Hn_.out (size35 _ (by simp [fetchC_len])) (by simp [fetchC_len]) (fetch_one _ _ _ _) ?_))
      obtain ⟨ww, h_⟩ : ∃ v, v = (wv.alloc (.cells (fetchC z32 none 0 0).toArray 35)).setRow wv.heap.size (fetchC tr A8 m c8).toArray := ⟨_, rfl⟩
      have hb_ : Below wv.heap.size wv ww := by rw [h_]; exact Below.setRow ((Below.refl _ _).alloc (Nat.le_refl _) _) (Nat.le_refl _) _
      have hF_ : Blk ww wv.heap.size 35 (fetchC tr A8 m c8).toArray := by rw [h_]; exact setRow_heap _ _ _ _ _ _ Hn_.out
      rw [← h_]
      clear h_ Hn_
      obtain ⟨nx, h_⟩ : ∃ v, v = wv.heap.size := ⟨_, rfl⟩
      rw [← h_] at hF_ ⊢
      have HFnx := Lib.hid hF_
      have Hnx := Lib.hid h_
      clear hF_ h_
      replace HT8 := Lib.hid (HT8.out.below hb_)
      replace HA := Lib.hid (HA.out.below hb_)
      replace HF := Lib.hid (HF.out.below hb_ HF.out.lt)
      replace HT := Lib.hid (HT.out.below hb_)
      replace HK := Lib.hid (HK.out.below hb_)
      replace HP := Lib.hid (HP.out.below hb_)
      replace Hw := Lib.hid (Hw.out.trans (hb_.mono Hw.out.size))
      replace HFnb := Lib.hid (HFnb.out.below hb_ HFnb.out.lt)
      clear hb_
      have hfl : hh.flatten.length ≤ 1000000000 := by
        have := flat_bd Hbd.out
        rw [hhl] at this
        omega
      have Hdn := Lib.hid (Done_any tr A6 m c6 hh ww HT.out.lst (by omega) hfl)
      go_upto_region 19 with (refine wpList_load_mid rfl 35 (.tmp 15) rfl tb 0 rfl (fetchC tr A6 m c6) _ (fetch_range HF.out) hd35 hrow35 (by rw [fetchC_len]; kernel_rfl) ?_)
      refine Hdn.out.mono ?_
      rintro e wy ⟨A9, c9, rfl, hr9, hb9⟩
      have HR9 := Lib.hid hr9
      clear hr9 Hdn
      replace HT8 := Lib.hid (HT8.out.below hb9)
      replace HA := Lib.hid (HA.out.below hb9)
      replace HF := Lib.hid (HF.out.below hb9 HF.out.lt)
      replace HT := Lib.hid (HT.out.below hb9)
      replace HK := Lib.hid (HK.out.below hb9)
      replace HP := Lib.hid (HP.out.below hb9)
      replace Hw := Lib.hid (Hw.out.trans (hb9.mono Hw.out.size))
      replace HFnb := Lib.hid (HFnb.out.below hb9 HFnb.out.lt)
      replace HFnx := Lib.hid (HFnx.out.below hb9 HFnx.out.lt)
      clear hb9
      have Hdn := Lib.hid (RDone_any tr A6 m c6 hh wy HT.out.lst (by omega) hfl)
      clear hfl
      go_upto_region 20 with (refine wpList_load_mid rfl 35 (.tmp 15) rfl tb 0 rfl (fetchC tr A6 m c6) _ (fetch_range HF.out) hd35 hrow35 (by rw [fetchC_len]; kernel_rfl) ?_)
      refine Hdn.out.mono ?_
      rintro e wz ⟨A10, c10, rfl, hr10, hb10⟩
      have HR10 := Lib.hid hr10
      clear hr10 Hdn
      replace HT8 := Lib.hid (HT8.out.below hb10)
      replace HA := Lib.hid (HA.out.below hb10)
      replace HF := Lib.hid (HF.out.below hb10 HF.out.lt)
      replace HT := Lib.hid (HT.out.below hb10)
      replace HK := Lib.hid (HK.out.below hb10)
      replace HP := Lib.hid (HP.out.below hb10)
      replace Hw := Lib.hid (Hw.out.trans (hb10.mono Hw.out.size))
      replace HFnb := Lib.hid (HFnb.out.below hb10 HFnb.out.lt)
      replace HFnx := Lib.hid (HFnx.out.below hb10 HFnx.out.lt)
      replace HR9 := Lib.hid (HR9.out.below hb10)
      clear hb10
      obtain ⟨DL, hDL⟩ : ∃ v, v = doneL hh := ⟨_, rfl⟩
      obtain ⟨DE, hDE⟩ : ∃ v, v = doneE hh := ⟨_, rfl⟩
      rw [← hDL] at HR9 HR10
      rw [← hDL, ← hDE]
      clear hDL hDE
      go_upto_region 20 with fail
      have hcx : ∀ (d : Nat) (os : Array Obj), (convert 22 9 (.slice A9 DL.length c9)).run Tryd.prog (grow (redrawn wz d) os) = .ok (.string (str DL)) (grow (redrawn wz d) os) := fun d os => convert_bytes A9 _ c9 DL _ (HR9.out.below (below_regrown wz d os))
      have hcy : ∀ (d : Nat) (os : Array Obj), (convert 22 9 (.slice A10 DL.length c10)).run Tryd.prog (grow (redrawn wz d) os) = .ok (.string (str DL)) (grow (redrawn wz d) os) := fun d os => convert_bytes A10 _ c10 DL _ (HR10.out.below (below_regrown wz d os))
      have hsb3 : ((str DL).toList != (str DL).toList) = false := by rw [bne, str_beq, decide_eq_true rfl]; rfl
      have hEE : (E != E) = false := by simp
      have hDD : (DE != DE) = false := by simp
      have hr20 : ∀ w', Ext wz w' → w'.rangeAt nb 0 (fetchC tr A7 m c7) := fun w' hw' => fetch_range (HFnb.out.below (ext_below hw') HFnb.out.lt)
      have hr22 : ∀ w', Ext wz w' → w'.rangeAt nx 0 (fetchC tr A8 m c8) := fun w' hw' => fetch_range (HFnx.out.below (ext_below hw') HFnx.out.lt)
      have hr15 : ∀ w', Ext wz w' → w'.rangeAt tb 0 (fetchC tr A6 m c6) := fun w' hw' => fetch_range (HF.out.below (ext_below hw') HF.out.lt)
      have Hr20 := Lib.hid hr20
      have Hr22 := Lib.hid hr22
      have Hr15 := Lib.hid hr15
      clear hr20 hr22 hr15
      go_cut [154] from 126 to 153 (fun t154 wx => t154 = .bool false ∧ Below wz.heap.size wz wx)
      case first =>
        refine wp_region_web [0, 1] 27 (by kernel_rfl) (by kernel_rfl) (fun _ _ d _ _ h => by cases d <;> exact h) (by kernel_rfl) (by kernel_rfl) rfl ?_
        simp only [List.take_succ_cons, List.take_zero, List.drop_succ_cons, List.drop_zero, pickOps, List.getElem?_cons_zero, List.getElem?_cons_succ]
        refine wpQuiet_load_mid rfl 35 _ rfl nb 0 rfl (fetchC tr A7 m c7) _ Hr20.out hd35 hrow35 (by rw [fetchC_len]; kernel_rfl) ?_
        simp only [Act.put, List.setIfInBounds_toArray, List.set_cons_succ, List.set_cons_zero]
        refine wpQuiet_load_mid rfl 35 _ rfl nx 0 rfl (fetchC tr A8 m c8) _ Hr22.out hd35 hrow35 (by rw [fetchC_len]; kernel_rfl) ?_
        simp only [Act.put, List.setIfInBounds_toArray, List.set_cons_succ, List.set_cons_zero]
        refine wpQuiet_nil ?_
        refine web_start0 (fs := []) [.act 2 [], .plain [3, 4, 5, 6, 7, 8, 9, 10, 11, 12, 13, 14, 15, 16, 17, 18, 19, 20, 21, 22, 24], .act 23 [], .act 25 [], .act 26 [], .plain [27, 28]] _ _ (by kernel_rfl) (fun _ _ d _ _ h => by cases d <;> exact h) trivial (by decide) (by decide) (by kernel_rfl) (by kernel_rfl) (ext_drew (ext_refl _)) (by intro F hF; simp at hF) 27 (by decide) (by kernel_rfl) ?_
        intro v1 W hW _ o ho K hK
        cases ho
        have hbW : Below wz.heap.size wz W := ((Below.refl _ wz).drew).trans hW
        simp only [putS, List.foldl_cons, List.foldl_nil, Act.put, List.setIfInBounds_toArray, List.set_cons_succ, List.set_cons_zero]
        have hsm := RSame_any tr tr A7 A8 m m c7 c8 H H W (HA.out.below hbW) (HT8.out.lst.below hbW)
        rw [decide_eq_true (show tr = tr ∧ H = H from ⟨rfl, rfl⟩)] at hsm
        have Hsm := Lib.hid hsm
        clear hsm
        unfold StepP
        go_simp
        refine Hsm.out.mono ?_
        rintro e W2 ⟨rfl, hb2⟩
        refine hK _ _ (by intro F hF; simp at hF) hb2 ?_
        have hb2 := hbW.trans (hb2.mono hbW.size)
        clear hK K Hsm
        intro v2 W3 hW3
        simp only [putS, List.foldl_cons, List.foldl_nil, Act.put, List.setIfInBounds_toArray, List.set_cons_succ, List.set_cons_zero, pickOps, List.getElem?_cons_zero, List.getElem?_cons_succ]
        repeat (first | go_big_quiet_step (fail) | (refine wpQuiet_load_mid_g (by first | rfl | simp [Region.wanted, yielded]) 35 _ rfl tb 0 rfl (fetchC tr A6 m c6) _ Hr15.out hd35 hrow35 (by rw [fetchC_len]; kernel_rfl) ?_; simp only [Act.put, List.setIfInBounds_toArray, List.set_cons_succ, List.set_cons_zero]))
        refine wpQuiet_nil ?_
        refine ⟨by intro F hF; simp at hF, ?_⟩
        clear hcx hcy hsb3 hEE hDD
        intro v3 W4 hW4 _ o ho K hK
        cases ho
        have hb4 := hb2.trans ((hW3.trans (hW4.mono hW3.size)).mono hb2.size)
        simp only [putS, List.foldl_cons, List.foldl_nil, Act.put, List.setIfInBounds_toArray, List.set_cons_succ, List.set_cons_zero]
        have Hwn := Lib.hid (Want_any tr A6 m c6 hh W4 (HT.out.lst.below hb4) (by omega))
        unfold StepP
        go_simp
        refine Hwn.out.mono ?_
        rintro e W5 ⟨A11, c11, rfl, hr11, hb5⟩
        refine hK _ _ (by intro F hF; simp at hF) hb5 ?_
        clear hK K Hwn
        have hb5' := hb4.trans (hb5.mono hb4.size)
        intro v4 W6 hW6 _ o ho K hK
        cases ho
        have hb6 := hb5'.trans (hW6.mono hb5'.size)
        have HR11 := Lib.hid (hr11.below hW6)
        simp only [putS, List.foldl_cons, List.foldl_nil, Act.put, List.setIfInBounds_toArray, List.set_cons_succ, List.set_cons_zero]
        have Hwn := Lib.hid (RWant_any tr A6 m c6 hh W6 (HT.out.lst.below hb6) (by omega))
        unfold StepP
        go_simp
        refine Hwn.out.mono ?_
        rintro e W7 ⟨A12, c12, rfl, hr12, hb7⟩
        refine hK _ _ (by intro F hF; simp at hF) hb7 ?_
        clear hK K Hwn hr11
        have hb7' := hb6.trans (hb7.mono hb6.size)
        intro v5 W8 hW8 _ o ho K hK
        cases ho
        have hb8 := hb7'.trans (hW8.mono hb7'.size)
        simp only [putS, List.foldl_cons, List.foldl_nil, Act.put, List.setIfInBounds_toArray, List.set_cons_succ, List.set_cons_zero]
        have hin := RInts_any A11 A12 (wantL hh).length (wantL hh).length c11 c12 (wantL hh) (wantL hh) W8 (HR11.out.below (hb7.trans (hW8.mono hb7.size))) (hr12.below hW8)
        rw [decide_eq_true rfl] at hin
        have Hin := Lib.hid hin
        clear hin
        unfold StepP
        go_simp
        refine Hin.out.mono ?_
        rintro e W9 ⟨rfl, hb9⟩
        refine hK _ _ (by intro F hF; simp at hF) hb9 ?_
        clear hK K Hin hr12
        have hb9' := hb8.trans (hb9.mono hb8.size)
        intro v6 Wa hWa
        simp only [putS, List.foldl_cons, List.foldl_nil, Act.put, List.setIfInBounds_toArray, List.set_cons_succ, List.set_cons_zero, pickOps, List.getElem?_cons_zero, List.getElem?_cons_succ]
        repeat (go_big_quiet_step (fail))
        refine wpQuiet_nil ?_
        refine ⟨by intro F hF; simp at hF, ?_⟩
        intro v7 Wb hWb _
        have Hend := Lib.hid (hb9'.trans ((hWa.trans (hWb.mono hWa.size)).mono hb9'.size))
        simp only [Exit.then, putS, List.foldl_cons, List.foldl_nil, Act.put, List.setIfInBounds_toArray, List.set_cons_succ, List.set_cons_zero]
        go_wp2_with fail
        go_meet
        exact ⟨rfl, Hend.out⟩
      case' rest => skip
      obtain ⟨rfl, hbe⟩ := hcut
      obtain ⟨we, hwe⟩ : ∃ v, v = wc := ⟨_, rfl⟩
      subst hwe
      clear hcx hcy hsb3 hEE hDD Hr20 Hr22 Hr15 HA HFnb HR9 HR10 Hnb
      replace HT8 := Lib.hid (HT8.out.below hbe)
      replace HF := Lib.hid (HF.out.below hbe HF.out.lt)
      replace HK := Lib.hid (HK.out.below hbe)
      replace HP := Lib.hid (HP.out.below hbe)
      replace Hw := Lib.hid (Hw.out.trans (hbe.mono Hw.out.size))
      replace HFnx := Lib.hid (HFnx.out.below hbe HFnx.out.lt)
      clear hbe
      have hKn := (KeptIn.refl (fun k => k ≠ tb) we).setRow (g := tb) (fun h => h rfl) (fetchC tr A8 m c8).toArray
      have hFn : Blk (we.setRow tb (fetchC tr A8 m c8).toArray) tb 35 (fetchC tr A8 m c8).toArray := setRow_heap _ _ _ _ _ _ HF.out
      have htb := Htb.out
      have HFn := Lib.hid hFn
      have HTn := Lib.hid (HT8.out.setRow HF.out (cells := (fetchC tr A8 m c8).toArray))
      have HKn := Lib.hid (HK.out.kept HF.out (by decide) hKn)
      have HPn := Lib.hid (HP.out.setRow HF.out (by omega) (by decide) (fetchC tr A8 m c8).toArray)
      have HWn := Lib.hid (Below.setRow Hw.out (show wa.heap.size ≤ tb by omega) (fetchC tr A8 m c8).toArray)
      clear hKn hFn htb
      go_wp2_with (first | (refine wpList_load_mid rfl 35 (.tmp 22) rfl nx 0 rfl (fetchC tr A8 m c8) _ (fetch_range HFnx.out) hd35 hrow35 (by rw [fetchC_len]; kernel_rfl) ?_) | (refine wpList_store_row rfl 35 (.tmp 15) (.tmp 155) rfl tb (fetchC tr A8 m c8).toArray rfl rfl 35 (fetchC tr A6 m c6).toArray HF.out (size35 _ (by simp [fetchC_len])) (by simp [fetchC_len]) (fetch_one _ _ _ _) ?_))
      exact ⟨⟨i + 1, A8, c8, H, by go_num, by omega, HFn.out, HTn.out, HHb.out, HKn.out, HPn.out, HWn.out⟩, by simp [intOf]; omega⟩
    · have HBe := Lib.hid (HB0.out.trans (Hw.out.mono HB0.out.size))
      by_cases hi : i < ln
      · have d3 : decide ((i : Int) < 8) = false := decide_eq_false (by omega)
        have d4 : decide (i < 8) = false := decide_eq_false (by omega)
        clear hlt
        go_wp2_with fail
        go_ret
        exact ⟨rfl, HBe.out⟩
      · have d3 : decide ((i : Int) < (ln : Int)) = false := decide_eq_false (by omega)
        have d4 : decide (i < ln) = false := decide_eq_false hi
        clear hlt
        go_wp2_with fail
        go_ret
        exact ⟨rfl, HBe.out⟩
end Go.Proofs.YthlecmmngldodaaDoor
