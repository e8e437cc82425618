/- The law FetchTransfers. -/
import Derived.Test.YthlecmmngldodaaDoorF19
namespace Go.Proofs.YthlecmmngldodaaDoor
open Go.RowKit Go.Sort

set_option maxRecDepth 100000 in
set_option maxHeartbeats 4000000 in
theorem FetchTransfers_any (A : Option Addr) (len cap : Nat) (bs : List UInt8) (x : Int) (A' : Option Addr) (len' cap' : Nat) (os : List UInt8) (w : World) (hg : Globs w) (hr : Rd w 1 A len (bs.map byteV)) (_hcap : len ≤ cap) (hx : 0 ≤ x ∧ x ≤ 65535) (hr' : Rd w 1 A' len' (os.map byteV)) (_hcap' : len' ≤ cap') (hl8 : len' ≤ 140737488355328) :
    Calls Tryd.prog 9 #[.slice A len cap, .int .u16 x, .slice A' len' cap'] w fun e w' => e = .returned (.bool true) ∧ Below w.heap.size w w' := by
  obtain ⟨n, rfl⟩ : ∃ n : Nat, x = (n : Int) := ⟨x.toNat, by omega⟩
  obtain ⟨i35, hi35, hz35, hs35, hy35⟩ := info_parts info35
  obtain ⟨d35, hd35, hrow35⟩ := und35
  have hol := hr'.le
  have Hr := Lib.hid hr
  have Hr' := Lib.hid hr'
  have Hg := Lib.hid hg
  have Hs := Lib.hid (Sanity_any w hg)
  clear hr hg hr'
  go_enter Tryd.func9, Tryd.ntmps9
  go_wp2_with fail
  refine Hs.out.mono ?_
  rintro e w1 ⟨rfl, hb1⟩
  have Hl := Lib.hid (Long_any A len cap n bs (by omega) w1 (Hr.out.below hb1))
  have HB1 := Lib.hid hb1
  clear hb1 Hs Hr
  go_wp2_with fail
  refine Hl.out.mono ?_
  rintro e w2 ⟨A2, c2, rfl, hc2, hr2, hb2⟩
  obtain ⟨X, hX⟩ : ∃ X, X = longL bs n := ⟨_, rfl⟩
  have hXl : X.length = 1 + n % 4000 := by rw [hX]; exact longL_len bs n
  rw [← hX] at hr2
  clear hX
  obtain ⟨L, hL⟩ : ∃ L, L = 1 + n % 4000 := ⟨_, rfl⟩
  have hL1 : 0 < L := by omega
  have hL2 : L ≤ 4000 := by omega
  rw [← hL] at hr2 hc2 hXl ⊢
  clear hL hx
  have Hc := Lib.hid (Cut_any A2 L c2 X w2 hr2 hL1 (by omega) hc2)
  have Hr2 := Lib.hid hr2
  have HB2 := Lib.hid (HB1.out.trans (hb2.mono HB1.out.size))
  have HXl := Lib.hid hXl
  clear hr2 hb2 Hl HB1 hXl
  go_upto_region 4 with fail
  refine Hc.out.mono ?_
  rintro e w3 ⟨A3, c3, rfl, hc3, hl3, hb3⟩
  obtain ⟨m, hm⟩ : ∃ m, m = (L + 1023) / 1024 := ⟨_, rfl⟩
  rw [← hm] at hl3 hc3 ⊢
  have hm1 : 1 ≤ m := by omega
  have hm4 : m ≤ 4 := by omega
  have Hm := Lib.hid (show m = (X.length + 1023) / 1024 by rw [HXl.out]; exact hm)
  have HL3 := Lib.hid hl3
  have Hr3 := Lib.hid (Hr2.out.below hb3)
  have HB3 := Lib.hid (HB2.out.trans (hb3.mono HB2.out.size))
  clear hl3 hb3 Hc Hr2 HB2 hm
  have hcs : ∀ c ∈ cutL X, c.length ≤ 8796093022000 := fun c hc => by
    obtain ⟨k, hk, rfl⟩ := List.mem_iff_getElem.1 hc
    rw [cutL_len] at hk
    have h1 := cutL_get X hk
    rw [List.getElem?_eq_getElem (by rw [cutL_len]; exact hk)] at h1
    rw [Option.some.inj h1, cutAt_len]; omega
  have Hcs := Lib.hid hcs
  clear hcs
  obtain ⟨tr, htr⟩ : ∃ tr, tr = root (cutL X) := ⟨_, rfl⟩
  have hrt := Root_any A3 m c3 (cutL X) w3 (Hg.out.below HB3.out) HL3.out (by omega) Hcs.out
  rw [← htr, show sumV tr.1 = .agg (sumC tr).toArray from rfl] at hrt
  have Hrt := Lib.hid hrt
  have Htr := Lib.hid htr
  clear hrt htr
  have g0 : ((m : Int) == 0) = false := by rw [beq_eq_false_iff_ne]; omega
  go_wp2_with fail
  refine Hrt.out.mono ?_
  rintro e w4 ⟨rfl, hb4⟩
  have Hn := Lib.hid (New_typed (relC 0 0 0 m tr) m tr (relC_n 0 0 0 m tr) (relC_t 0 0 0 m tr) hm1 (by omega) w4)
  have HB4 := Lib.hid (HB3.out.trans (hb4.mono HB3.out.size))
  have HL4 := Lib.hid (HL3.out.below hb4)
  have Hr4 := Lib.hid (Hr3.out.below hb4)
  clear hb4 Hrt HB3 HL3 Hr3 g0
  go_upto_region 7 with (refine wpList_build2 rfl 41 5 6 (.tmp 39) (.tmp 41) rfl _ _ rfl rfl _ (builtRel m tr) ?_)
  refine Hn.out.mono ?_
  rintro e w5 ⟨g5, rfl, hk5, hb5⟩
  have HB5 := Lib.hid (HB4.out.trans (hb5.mono HB4.out.size))
  have HL5 := Lib.hid (HL4.out.below hb5)
  have Hr5 := Lib.hid (Hr4.out.below hb5)
  have HT5 := Lib.hid (tlst_empty hk5 (by omega))
  clear hb5 hk5 Hn HB4 HL4 Hr4
  have hn5 : Blk (w5.alloc (.cells (fetchC z32 none 0 0).toArray 35)) w5.heap.size 35 (fetchC z32 none 0 0).toArray := Blk.new _ _ _
  have Hn5 := Lib.hid hn5
  clear hn5
  go_upto_region 7 with (first | (refine wpList_alloc0 rfl 35 rfl (fetchC z32 none 0 0).toArray _ i35 hi35 hz35 rfl ?_; simp only [Act.put, List.setIfInBounds_toArray, List.set_cons_succ, List.set_cons_zero]) | (refine wpList_store_row rfl 35 (.tmp 11) (.tmp 44) rfl w5.heap.size (fetchC tr (some ⟨g5, 0, none⟩) m m).toArray rfl rfl 35 (fetchC z32 none 0 0).toArray Hn5.out (size35 _ (by simp [fetchC_len])) (by simp [fetchC_len]) (fetch_one _ _ _ _) ?_))
  obtain ⟨w6, hw6⟩ : ∃ w6, w6 = (w5.alloc (.cells (fetchC z32 none 0 0).toArray 35)).setRow w5.heap.size (fetchC tr (some ⟨g5, 0, none⟩) m m).toArray := ⟨_, rfl⟩
  have hb6 : Below w5.heap.size w5 w6 := by rw [hw6]; exact Below.setRow ((Below.refl _ _).alloc (Nat.le_refl _) _) (Nat.le_refl _) _
  have hF6 : Blk w6 w5.heap.size 35 (fetchC tr (some ⟨g5, 0, none⟩) m m).toArray := by rw [hw6]; exact setRow_heap _ _ _ _ _ _ Hn5.out
  rw [← hw6]
  clear hw6 Hn5
  obtain ⟨tb, htb⟩ : ∃ tb, tb = w5.heap.size := ⟨_, rfl⟩
  rw [← htb] at hF6 ⊢
  have HT6 := Lib.hid (HT5.out.below hb6)
  have HF6 := Lib.hid hF6
  have Hb6 := Lib.hid hb6
  have Hg5 := Lib.hid (Hg.out.below HB5.out)
  have Ho5 := Lib.hid (Hr'.out.below HB5.out)
  have Htb := Lib.hid htb
  have hw5 : w.heap.size ≤ w5.heap.size := HB5.out.size
  clear hb6 hF6 HT5 Hr' Hg htb
  obtain ⟨o, ho, ho8⟩ : ∃ o : Nat, o = min len' 8 ∧ o ≤ 8 := ⟨_, rfl, Nat.min_le_right _ _⟩
  have Ho := Lib.hid ho
  clear ho
  go_wp2_with fail
  go_loopw [13] (fun v13 wr => ∃ (i : Nat) (A' : Option Addr) (c' : Nat) (hh : List (List UInt8)), v13 = .int .i64 (i : Int) ∧ i ≤ o + m ∧ Blk wr tb 35 (fetchC tr A' m c').toArray ∧ TLst wr A' m hh ∧ Goodh X hh ∧ (∀ j, j < m → o + j < i → hh[j]? = some (cutAt X j)) ∧ Below w5.heap.size w5 wr) (fun v13 _ => o + m - (intOf v13).toNat)
  case atStart => exact ⟨0, _, m, List.replicate m [], rfl, by omega, HF6.out, HT6.out, by rw [Hm.out]; exact good_start X, fun j _ h => by omega, Hb6.out⟩
  case round =>
    obtain ⟨i, A6, c6, hh, rfl, hi, hF, hT, hgd, hfl, hB⟩ := hrel
    have HF := Lib.hid hF
    have HT := Lib.hid hT
    have Hgd := Lib.hid hgd
    have Hfl := Lib.hid hfl
    have HB := Lib.hid hB
    have hsz := hB.size
    clear hF hT hgd hfl hB
    by_cases hlt : i < o + m
    · have a1 : i < len' + m := by have := Ho.out; omega
      have a2 : i < 8 + m := by omega
      by_cases hio : i < o
      · have a3 : i < len' := by have := Ho.out; omega
        have a4 : i < 8 := by omega
        obtain ⟨bo, oo, y, rfl, hy, cy⟩ := (Ho5.out.below HB.out).byte_ a3
        obtain ⟨k, hk⟩ : ∃ k, k = y.toNat % m := ⟨_, rfl⟩
        have hkm : k < m := by rw [hk]; exact Nat.mod_lt _ (by omega)
        have hki : (y.toNat : Int) % (m : Int) = (k : Int) := by rw [hk]; omega
        have hmod : (wrap64 (y.toNat : Int)).tmod (m : Int) = (k : Int) := by
          have h1 := y.toNat_lt
          rw [show wrap64 (y.toNat : Int) = (y.toNat : Int) from by unfold wrap64; omega, Int.tmod_eq_emod_of_nonneg (by omega), hki]
        have Hmod := Lib.hid hmod
        clear hk hki hmod
        go_upto_region 16 with fail
        rw [Hmod.out]
        have Hpf := Lib.hid (Proof_any A3 m c3 k (cutL X) wr (Hg5.out.below HB.out) (HL5.out.below HB.out) (by omega) Hcs.out hkm)
        go_upto_region 17 with fail
        refine Hpf.out.mono ?_
        rintro e w7 ⟨A7, n7, c7, rfl, hn7, hr7, hb7⟩
        obtain ⟨bL, oL, v, z, rfl, hz, cz, hrz, hvz⟩ := ((HL5.out.below HB.out).below hb7).at_ hkm
        have hkX : k < (X.length + 1023) / 1024 := by rw [← Hm.out]; exact hkm
        rw [cutL_get X hkX] at hz
        obtain rfl : cutAt X k = z := Option.some.inj hz
        have hvn := hrz.len1
        have hvs := cutAt_len X k
        have hhl := Hgd.out.1
        have htk := take_right X Hgd.out hkX
        have hst := take_step X Hgd.out hkX
        rw [← Htr.out] at htk hst
        have HF7 := Lib.hid (HF.out.below hb7 HF.out.lt)
        have HT7 := Lib.hid (HT.out.below hb7)
        have Hg7 := Lib.hid ((Hg5.out.below HB.out).below hb7)
        have Hrz := Lib.hid hrz
        have Hr7 := Lib.hid hr7
        have Hb7 := Lib.hid hb7
        have Hst := Lib.hid hst
        have Htk := Lib.hid htk
        have hvb : v.n ≤ 1024 := by omega
        have hs7 := hb7.size
        clear hrz hr7 hb7 hst htk hvn hvs hhl hz Hpf HF HT Hgd
        go_upto_region 17 with fail
        have hrt7 : ∀ w', Ext w7 w' → w'.rangeAt tb 0 (fetchC tr A6 m c6) := fun w' hw' => fetch_range (HF7.out.below (ext_below hw') HF7.out.lt)
        have Hrt7 := Lib.hid hrt7
        have czr := cell_regrown cz
        clear hrt7
        go_cut [17, 18] from 101 to 111 (fun t17 t18 wx => ∃ (B : Nat) (A8 : Option Addr) (c8 : Nat), t17 = .pointer (some ⟨B, 0, none⟩) ∧ t18 = .int .i64 0 ∧ w7.heap.size ≤ B ∧ Blk wx B 35 (fetchC tr A8 m c8).toArray ∧ TLst wx A8 m (takeH tr hh (k : Int) (cutAt X k) (proofL ((cutL X).map leafS) k)) ∧ Below w7.heap.size w7 wx)
        case first =>
          refine wp_region_reads_tail 13 [0, 1, 2, 3, 4, 5, 6] 6 (by kernel_rfl) (List.take_append_drop _ _) rfl (by kernel_rfl) (by kernel_rfl) (by kernel_rfl) (by decide) (by kernel_rfl) (by kernel_rfl) (fun _ _ d _ _ h => by cases d <;> exact h) (by kernel_rfl) (by kernel_rfl) rfl ?_
          simp only [List.take_succ_cons, List.take_zero, List.drop_succ_cons, List.drop_zero, pickOps, List.getElem?_cons_zero, List.getElem?_cons_succ]
          refine wpQuiet_load_mid rfl 35 _ rfl tb 0 rfl (fetchC tr A6 m c6) _ Hrt7.out hd35 hrow35 (by rw [fetchC_len]; kernel_rfl) ?_
          simp only [Act.put, List.setIfInBounds_toArray, List.set_cons_succ, List.set_cons_zero]
          clear cz
          repeat (go_big_quiet_step (fail))
          refine wpQuiet_nil ?_
          refine chain_float (w0 := w7) (d := 17) (f := 11) (s := 12) (T := 35) (Z := (fetchC z32 none 0 0).toArray) (y := .tmp 110) (is1 := [8, 9, 10]) (by kernel_rfl) (fun _ _ d _ _ h => by cases d <;> exact h) (by kernel_rfl) rfl rfl rfl rfl (fun cells h => size35 _ (h.trans (by simp [fetchC_len]))) rfl rfl rfl rfl hi35 hz35 rfl [7] _ _ _ (by kernel_rfl) rfl (ext_drew (ext_refl _)) (by simp) ?_
          intro y1 W hW
          have hbW : Below w7.heap.size w7 W := ((Below.refl _ w7).drew).trans hW
          simp only [Act.put, List.setIfInBounds_toArray, List.set_cons_succ, List.set_cons_zero, pickOps, List.getElem?_cons_zero, List.getElem?_cons_succ]
          have htk := Take_typed tr A6 m c6 hh (k : Int) v.a v.n v.c (cutAt X k) A7 n7 c7 (proofL ((cutL X).map leafS) k) W (Hg7.out.below hbW) (HT7.out.lst.below hbW) (by omega) (Hrz.out.below hbW) (by omega) (Hr7.out.below hbW) hn7 (by omega)
          rw [Htk.out] at htk
          have Htk2 := Lib.hid htk
          clear htk hW
          intro K hK
          go_simp
          refine Htk2.out.mono ?_
          rintro e W3 ⟨A8, c8, rfl, _, hT8, hb8⟩
          refine hK _ _ rfl (by simp) hb8 ?_
          have HT8 := Lib.hid (hT8 (HT7.out.below hbW))
          have Hb8 := Lib.hid (hbW.trans (hb8.mono hbW.size))
          clear hK K Htk2 hT8 hb8 hbW
          intro y3 W4 hW4
          simp only [Act.put, List.setIfInBounds_toArray, List.set_cons_succ, List.set_cons_zero, chainP, finP, pickOps, List.getElem?_cons_zero, List.getElem?_cons_succ]
          repeat (go_big_quiet_step (fail))
          refine wpQuiet_nil ?_
          refine ⟨rfl, by simp, fun B W5 hB hb5 hblk => ⟨_, rfl, by simp [fetchC_len], fetch_one _ _ _ _, ?_⟩⟩
          have hbb := hW4.trans (hb5.mono hW4.size)
          have hb6 := Below.setRow (Hb8.out.trans (hbb.mono Hb8.out.size)) hB (fetchC tr A8 m c8).toArray
          have hT9 := ((HT8.out.below hbb).setRow hblk (cells := (fetchC tr A8 m c8).toArray))
          have hF9 : Blk (W5.setRow B (fetchC tr A8 m c8).toArray) B 35 (fetchC tr A8 m c8).toArray := setRow_heap _ _ _ _ _ _ hblk
          have Hb6 := Lib.hid hb6
          have HT9 := Lib.hid hT9
          have HF9 := Lib.hid hF9
          clear hb6 hW4 hb5 hblk Hb8 HT8 hbb hT9 hF9
          simp only [Exit.then, Act.put, List.setIfInBounds_toArray, List.set_cons_succ, List.set_cons_zero]
          go_wp2_with fail
          go_meet
          exact ⟨B, A8, c8, rfl, rfl, hB, HF9.out, HT9.out, Hb6.out⟩
        case' rest => skip
        obtain ⟨B, A8, c8, rfl, rfl, hB8, hF8, hT8, hb8⟩ := hcut
        obtain ⟨w8, hw8⟩ : ∃ v, v = wc := ⟨_, rfl⟩
        subst hw8
        have hF8t := HF7.out.below hb8 HF7.out.lt
        have hlt7 := HF7.out.lt
        have hK8 := (KeptIn.refl (fun q => q ≠ tb) w8).setRow (g := tb) (fun h => h rfl) (fetchC tr A8 m c8).toArray
        have hFn : Blk (w8.setRow tb (fetchC tr A8 m c8).toArray) tb 35 (fetchC tr A8 m c8).toArray := setRow_heap _ _ _ _ _ _ hF8t
        have HFn := Lib.hid hFn
        have HTn := Lib.hid (hT8.setRow hF8t (cells := (fetchC tr A8 m c8).toArray))
        have htb := Htb.out
        have HBn := Lib.hid (Below.setRow ((HB.out.trans (Hb7.out.mono hsz)).trans (hb8.mono (by omega))) (show w5.heap.size ≤ tb by omega) (fetchC tr A8 m c8).toArray)
        have HF8 := Lib.hid hF8
        have HF8t := Lib.hid hF8t
        clear hFn htb hF8 hT8 hb8 hF8t hK8 Hrt7 czr
        go_wp2_with (first | (refine wpList_load_mid rfl 35 (.tmp 17) rfl B 0 rfl (fetchC tr A8 m c8) _ (fetch_range HF8.out) hd35 hrow35 (by rw [fetchC_len]; kernel_rfl) ?_) | (refine wpList_store_row rfl 35 (.tmp 11) (.tmp 118) rfl tb (fetchC tr A8 m c8).toArray rfl rfl 35 (fetchC tr A6 m c6).toArray HF8t.out (size35 _ (by simp [fetchC_len])) (by simp [fetchC_len]) (fetch_one _ _ _ _) ?_))
        exact ⟨⟨i + 1, A8, c8, takeH tr hh (k : Int) (cutAt X k) (proofL ((cutL X).map leafS) k), by go_num, by omega, HFn.out, HTn.out, Hst.out.1, fun j hj hji => Hst.out.2.2 j (Hfl.out j hj (by omega)), HBn.out⟩, by simp [intOf]; omega⟩
      · obtain ⟨k, hk⟩ : ∃ k, k = i - o := ⟨_, rfl⟩
        have hkm : k < m := by omega
        have hio2 : o ≤ i := by omega
        have hmod : ((i : Int) + (m : Int) - (o : Int)) % (m : Int) = (k : Int) := by
          rw [show ((i : Int) + (m : Int)) - (o : Int) = (k : Int) + (m : Int) from by omega, Int.add_emod_right, Int.emod_eq_of_lt (by omega) (by omega)]
        have Hk := Lib.hid hk
        clear hk
        rcases (by have := Ho.out; omega : (len' ≤ 8 ∧ len' ≤ i) ∨ (8 < len' ∧ len' ≤ i) ∨ (8 < len' ∧ i < len')) with ⟨h8, hq⟩ | ⟨h8, hq⟩ | ⟨h8, hq⟩
        · rw [show (o : Int) = (len' : Int) from by have := Ho.out; omega] at hmod
          have Hmod := Lib.hid hmod
          have d1 : decide (i < len') = false := decide_eq_false (by omega)
          have d2 : decide ((i : Int) < (len' : Int)) = false := decide_eq_false (by omega)
          clear hmod
          go_upto_region 16 with fail
          rw [Hmod.out]
          clear d1 d2
          have Hpf := Lib.hid (Proof_any A3 m c3 k (cutL X) wr (Hg5.out.below HB.out) (HL5.out.below HB.out) (by omega) Hcs.out hkm)
          go_upto_region 17 with fail
          refine Hpf.out.mono ?_
          rintro e w7 ⟨A7, n7, c7, rfl, hn7, hr7, hb7⟩
          obtain ⟨bL, oL, v, z, rfl, hz, cz, hrz, hvz⟩ := ((HL5.out.below HB.out).below hb7).at_ hkm
          have hkX : k < (X.length + 1023) / 1024 := by rw [← Hm.out]; exact hkm
          rw [cutL_get X hkX] at hz
          obtain rfl : cutAt X k = z := Option.some.inj hz
          have hvn := hrz.len1
          have hvs := cutAt_len X k
          have hhl := Hgd.out.1
          have htk := take_right X Hgd.out hkX
          have hst := take_step X Hgd.out hkX
          rw [← Htr.out] at htk hst
          have HF7 := Lib.hid (HF.out.below hb7 HF.out.lt)
          have HT7 := Lib.hid (HT.out.below hb7)
          have Hg7 := Lib.hid ((Hg5.out.below HB.out).below hb7)
          have Hrz := Lib.hid hrz
          have Hr7 := Lib.hid hr7
          have Hb7 := Lib.hid hb7
          have Hst := Lib.hid hst
          have Htk := Lib.hid htk
          have hvb : v.n ≤ 1024 := by omega
          have hs7 := hb7.size
          clear hrz hr7 hb7 hst htk hvn hvs hhl hz Hpf HF HT Hgd
          go_upto_region 17 with fail
          have hrt7 : ∀ w', Ext w7 w' → w'.rangeAt tb 0 (fetchC tr A6 m c6) := fun w' hw' => fetch_range (HF7.out.below (ext_below hw') HF7.out.lt)
          have Hrt7 := Lib.hid hrt7
          have czr := cell_regrown cz
          clear hrt7
          go_cut [17, 18] from 101 to 111 (fun t17 t18 wx => ∃ (B : Nat) (A8 : Option Addr) (c8 : Nat), t17 = .pointer (some ⟨B, 0, none⟩) ∧ t18 = .int .i64 0 ∧ w7.heap.size ≤ B ∧ Blk wx B 35 (fetchC tr A8 m c8).toArray ∧ TLst wx A8 m (takeH tr hh (k : Int) (cutAt X k) (proofL ((cutL X).map leafS) k)) ∧ Below w7.heap.size w7 wx)
          case first =>
            refine wp_region_reads_tail 13 [0, 1, 2, 3, 4, 5, 6] 6 (by kernel_rfl) (List.take_append_drop _ _) rfl (by kernel_rfl) (by kernel_rfl) (by kernel_rfl) (by decide) (by kernel_rfl) (by kernel_rfl) (fun _ _ d _ _ h => by cases d <;> exact h) (by kernel_rfl) (by kernel_rfl) rfl ?_
            simp only [List.take_succ_cons, List.take_zero, List.drop_succ_cons, List.drop_zero, pickOps, List.getElem?_cons_zero, List.getElem?_cons_succ]
            refine wpQuiet_load_mid rfl 35 _ rfl tb 0 rfl (fetchC tr A6 m c6) _ Hrt7.out hd35 hrow35 (by rw [fetchC_len]; kernel_rfl) ?_
            simp only [Act.put, List.setIfInBounds_toArray, List.set_cons_succ, List.set_cons_zero]
            clear cz
            repeat (go_big_quiet_step (fail))
            refine wpQuiet_nil ?_
            refine chain_float (w0 := w7) (d := 17) (f := 11) (s := 12) (T := 35) (Z := (fetchC z32 none 0 0).toArray) (y := .tmp 110) (is1 := [8, 9, 10]) (by kernel_rfl) (fun _ _ d _ _ h => by cases d <;> exact h) (by kernel_rfl) rfl rfl rfl rfl (fun cells h => size35 _ (h.trans (by simp [fetchC_len]))) rfl rfl rfl rfl hi35 hz35 rfl [7] _ _ _ (by kernel_rfl) rfl (ext_drew (ext_refl _)) (by simp) ?_
            intro y1 W hW
            have hbW : Below w7.heap.size w7 W := ((Below.refl _ w7).drew).trans hW
            simp only [Act.put, List.setIfInBounds_toArray, List.set_cons_succ, List.set_cons_zero, pickOps, List.getElem?_cons_zero, List.getElem?_cons_succ]
            have htk := Take_typed tr A6 m c6 hh (k : Int) v.a v.n v.c (cutAt X k) A7 n7 c7 (proofL ((cutL X).map leafS) k) W (Hg7.out.below hbW) (HT7.out.lst.below hbW) (by omega) (Hrz.out.below hbW) (by omega) (Hr7.out.below hbW) hn7 (by omega)
            rw [Htk.out] at htk
            have Htk2 := Lib.hid htk
            clear htk hW
            intro K hK
            go_simp
            refine Htk2.out.mono ?_
            rintro e W3 ⟨A8, c8, rfl, _, hT8, hb8⟩
            refine hK _ _ rfl (by simp) hb8 ?_
            have HT8 := Lib.hid (hT8 (HT7.out.below hbW))
            have Hb8 := Lib.hid (hbW.trans (hb8.mono hbW.size))
            clear hK K Htk2 hT8 hb8 hbW
            intro y3 W4 hW4
            simp only [Act.put, List.setIfInBounds_toArray, List.set_cons_succ, List.set_cons_zero, chainP, finP, pickOps, List.getElem?_cons_zero, List.getElem?_cons_succ]
            repeat (go_big_quiet_step (fail))
            refine wpQuiet_nil ?_
            refine ⟨rfl, by simp, fun B W5 hB hb5 hblk => ⟨_, rfl, by simp [fetchC_len], fetch_one _ _ _ _, ?_⟩⟩
            have hbb := hW4.trans (hb5.mono hW4.size)
            have hb6 := Below.setRow (Hb8.out.trans (hbb.mono Hb8.out.size)) hB (fetchC tr A8 m c8).toArray
            have hT9 := ((HT8.out.below hbb).setRow hblk (cells := (fetchC tr A8 m c8).toArray))
            have hF9 : Blk (W5.setRow B (fetchC tr A8 m c8).toArray) B 35 (fetchC tr A8 m c8).toArray := setRow_heap _ _ _ _ _ _ hblk
            have Hb6 := Lib.hid hb6
            have HT9 := Lib.hid hT9
            have HF9 := Lib.hid hF9
            clear hb6 hW4 hb5 hblk Hb8 HT8 hbb hT9 hF9
            simp only [Exit.then, Act.put, List.setIfInBounds_toArray, List.set_cons_succ, List.set_cons_zero]
            go_wp2_with fail
            go_meet
            exact ⟨B, A8, c8, rfl, rfl, hB, HF9.out, HT9.out, Hb6.out⟩
          case' rest => skip
          obtain ⟨B, A8, c8, rfl, rfl, hB8, hF8, hT8, hb8⟩ := hcut
          obtain ⟨w8, hw8⟩ : ∃ v, v = wc := ⟨_, rfl⟩
          subst hw8
          have hF8t := HF7.out.below hb8 HF7.out.lt
          have hlt7 := HF7.out.lt
          have hK8 := (KeptIn.refl (fun q => q ≠ tb) w8).setRow (g := tb) (fun h => h rfl) (fetchC tr A8 m c8).toArray
          have hFn : Blk (w8.setRow tb (fetchC tr A8 m c8).toArray) tb 35 (fetchC tr A8 m c8).toArray := setRow_heap _ _ _ _ _ _ hF8t
          have HFn := Lib.hid hFn
          have HTn := Lib.hid (hT8.setRow hF8t (cells := (fetchC tr A8 m c8).toArray))
          have htb := Htb.out
          have HBn := Lib.hid (Below.setRow ((HB.out.trans (Hb7.out.mono hsz)).trans (hb8.mono (by omega))) (show w5.heap.size ≤ tb by omega) (fetchC tr A8 m c8).toArray)
          have HF8 := Lib.hid hF8
          have HF8t := Lib.hid hF8t
          clear hFn htb hF8 hT8 hb8 hF8t hK8 Hrt7 czr
          go_wp2_with (first | (refine wpList_load_mid rfl 35 (.tmp 17) rfl B 0 rfl (fetchC tr A8 m c8) _ (fetch_range HF8.out) hd35 hrow35 (by rw [fetchC_len]; kernel_rfl) ?_) | (refine wpList_store_row rfl 35 (.tmp 11) (.tmp 118) rfl tb (fetchC tr A8 m c8).toArray rfl rfl 35 (fetchC tr A6 m c6).toArray HF8t.out (size35 _ (by simp [fetchC_len])) (by simp [fetchC_len]) (fetch_one _ _ _ _) ?_))
          exact ⟨⟨i + 1, A8, c8, takeH tr hh (k : Int) (cutAt X k) (proofL ((cutL X).map leafS) k), by go_num, by omega, HFn.out, HTn.out, Hst.out.1, fun j hj hji => (by
              have hke := Hk.out
              by_cases hjk : j = k
              · subst hjk; exact Hst.out.2.1
              · exact Hst.out.2.2 j (Hfl.out j hj (by omega))), HBn.out⟩, by simp [intOf]; omega⟩
        · rw [show (o : Int) = 8 from by have := Ho.out; omega] at hmod
          have Hmod := Lib.hid hmod
          have d1 : decide (i < len') = false := decide_eq_false (by omega)
          have d2 : decide ((i : Int) < (len' : Int)) = false := decide_eq_false (by omega)
          clear hmod
          go_upto_region 16 with fail
          rw [Hmod.out]
          clear d1 d2
          have Hpf := Lib.hid (Proof_any A3 m c3 k (cutL X) wr (Hg5.out.below HB.out) (HL5.out.below HB.out) (by omega) Hcs.out hkm)
          go_upto_region 17 with fail
          refine Hpf.out.mono ?_
          rintro e w7 ⟨A7, n7, c7, rfl, hn7, hr7, hb7⟩
          obtain ⟨bL, oL, v, z, rfl, hz, cz, hrz, hvz⟩ := ((HL5.out.below HB.out).below hb7).at_ hkm
          have hkX : k < (X.length + 1023) / 1024 := by rw [← Hm.out]; exact hkm
          rw [cutL_get X hkX] at hz
          obtain rfl : cutAt X k = z := Option.some.inj hz
          have hvn := hrz.len1
          have hvs := cutAt_len X k
          have hhl := Hgd.out.1
          have htk := take_right X Hgd.out hkX
          have hst := take_step X Hgd.out hkX
          rw [← Htr.out] at htk hst
          have HF7 := Lib.hid (HF.out.below hb7 HF.out.lt)
          have HT7 := Lib.hid (HT.out.below hb7)
          have Hg7 := Lib.hid ((Hg5.out.below HB.out).below hb7)
          have Hrz := Lib.hid hrz
          have Hr7 := Lib.hid hr7
          have Hb7 := Lib.hid hb7
          have Hst := Lib.hid hst
          have Htk := Lib.hid htk
          have hvb : v.n ≤ 1024 := by omega
          have hs7 := hb7.size
          clear hrz hr7 hb7 hst htk hvn hvs hhl hz Hpf HF HT Hgd
          go_upto_region 17 with fail
          have hrt7 : ∀ w', Ext w7 w' → w'.rangeAt tb 0 (fetchC tr A6 m c6) := fun w' hw' => fetch_range (HF7.out.below (ext_below hw') HF7.out.lt)
          have Hrt7 := Lib.hid hrt7
          have czr := cell_regrown cz
          clear hrt7
          go_cut [17, 18] from 101 to 111 (fun t17 t18 wx => ∃ (B : Nat) (A8 : Option Addr) (c8 : Nat), t17 = .pointer (some ⟨B, 0, none⟩) ∧ t18 = .int .i64 0 ∧ w7.heap.size ≤ B ∧ Blk wx B 35 (fetchC tr A8 m c8).toArray ∧ TLst wx A8 m (takeH tr hh (k : Int) (cutAt X k) (proofL ((cutL X).map leafS) k)) ∧ Below w7.heap.size w7 wx)
          case first =>
            refine wp_region_reads_tail 13 [0, 1, 2, 3, 4, 5, 6] 6 (by kernel_rfl) (List.take_append_drop _ _) rfl (by kernel_rfl) (by kernel_rfl) (by kernel_rfl) (by decide) (by kernel_rfl) (by kernel_rfl) (fun _ _ d _ _ h => by cases d <;> exact h) (by kernel_rfl) (by kernel_rfl) rfl ?_
            simp only [List.take_succ_cons, List.take_zero, List.drop_succ_cons, List.drop_zero, pickOps, List.getElem?_cons_zero, List.getElem?_cons_succ]
            refine wpQuiet_load_mid rfl 35 _ rfl tb 0 rfl (fetchC tr A6 m c6) _ Hrt7.out hd35 hrow35 (by rw [fetchC_len]; kernel_rfl) ?_
            simp only [Act.put, List.setIfInBounds_toArray, List.set_cons_succ, List.set_cons_zero]
            clear cz
            repeat (go_big_quiet_step (fail))
            refine wpQuiet_nil ?_
            refine chain_float (w0 := w7) (d := 17) (f := 11) (s := 12) (T := 35) (Z := (fetchC z32 none 0 0).toArray) (y := .tmp 110) (is1 := [8, 9, 10]) (by kernel_rfl) (fun _ _ d _ _ h => by cases d <;> exact h) (by kernel_rfl) rfl rfl rfl rfl (fun cells h => size35 _ (h.trans (by simp [fetchC_len]))) rfl rfl rfl rfl hi35 hz35 rfl [7] _ _ _ (by kernel_rfl) rfl (ext_drew (ext_refl _)) (by simp) ?_
            intro y1 W hW
            have hbW : Below w7.heap.size w7 W := ((Below.refl _ w7).drew).trans hW
            simp only [Act.put, List.setIfInBounds_toArray, List.set_cons_succ, List.set_cons_zero, pickOps, List.getElem?_cons_zero, List.getElem?_cons_succ]
            have htk := Take_typed tr A6 m c6 hh (k : Int) v.a v.n v.c (cutAt X k) A7 n7 c7 (proofL ((cutL X).map leafS) k) W (Hg7.out.below hbW) (HT7.out.lst.below hbW) (by omega) (Hrz.out.below hbW) (by omega) (Hr7.out.below hbW) hn7 (by omega)
            rw [Htk.out] at htk
            have Htk2 := Lib.hid htk
            clear htk hW
            intro K hK
            go_simp
            refine Htk2.out.mono ?_
            rintro e W3 ⟨A8, c8, rfl, _, hT8, hb8⟩
            refine hK _ _ rfl (by simp) hb8 ?_
            have HT8 := Lib.hid (hT8 (HT7.out.below hbW))
            have Hb8 := Lib.hid (hbW.trans (hb8.mono hbW.size))
            clear hK K Htk2 hT8 hb8 hbW
            intro y3 W4 hW4
            simp only [Act.put, List.setIfInBounds_toArray, List.set_cons_succ, List.set_cons_zero, chainP, finP, pickOps, List.getElem?_cons_zero, List.getElem?_cons_succ]
            repeat (go_big_quiet_step (fail))
            refine wpQuiet_nil ?_
            refine ⟨rfl, by simp, fun B W5 hB hb5 hblk => ⟨_, rfl, by simp [fetchC_len], fetch_one _ _ _ _, ?_⟩⟩
            have hbb := hW4.trans (hb5.mono hW4.size)
            have hb6 := Below.setRow (Hb8.out.trans (hbb.mono Hb8.out.size)) hB (fetchC tr A8 m c8).toArray
            have hT9 := ((HT8.out.below hbb).setRow hblk (cells := (fetchC tr A8 m c8).toArray))
            have hF9 : Blk (W5.setRow B (fetchC tr A8 m c8).toArray) B 35 (fetchC tr A8 m c8).toArray := setRow_heap _ _ _ _ _ _ hblk
            have Hb6 := Lib.hid hb6
            have HT9 := Lib.hid hT9
            have HF9 := Lib.hid hF9
            clear hb6 hW4 hb5 hblk Hb8 HT8 hbb hT9 hF9
            simp only [Exit.then, Act.put, List.setIfInBounds_toArray, List.set_cons_succ, List.set_cons_zero]
            go_wp2_with fail
            go_meet
            exact ⟨B, A8, c8, rfl, rfl, hB, HF9.out, HT9.out, Hb6.out⟩
          case' rest => skip
          obtain ⟨B, A8, c8, rfl, rfl, hB8, hF8, hT8, hb8⟩ := hcut
          obtain ⟨w8, hw8⟩ : ∃ v, v = wc := ⟨_, rfl⟩
          subst hw8
          have hF8t := HF7.out.below hb8 HF7.out.lt
          have hlt7 := HF7.out.lt
          have hK8 := (KeptIn.refl (fun q => q ≠ tb) w8).setRow (g := tb) (fun h => h rfl) (fetchC tr A8 m c8).toArray
          have hFn : Blk (w8.setRow tb (fetchC tr A8 m c8).toArray) tb 35 (fetchC tr A8 m c8).toArray := setRow_heap _ _ _ _ _ _ hF8t
          have HFn := Lib.hid hFn
          have HTn := Lib.hid (hT8.setRow hF8t (cells := (fetchC tr A8 m c8).toArray))
          have htb := Htb.out
          have HBn := Lib.hid (Below.setRow ((HB.out.trans (Hb7.out.mono hsz)).trans (hb8.mono (by omega))) (show w5.heap.size ≤ tb by omega) (fetchC tr A8 m c8).toArray)
          have HF8 := Lib.hid hF8
          have HF8t := Lib.hid hF8t
          clear hFn htb hF8 hT8 hb8 hF8t hK8 Hrt7 czr
          go_wp2_with (first | (refine wpList_load_mid rfl 35 (.tmp 17) rfl B 0 rfl (fetchC tr A8 m c8) _ (fetch_range HF8.out) hd35 hrow35 (by rw [fetchC_len]; kernel_rfl) ?_) | (refine wpList_store_row rfl 35 (.tmp 11) (.tmp 118) rfl tb (fetchC tr A8 m c8).toArray rfl rfl 35 (fetchC tr A6 m c6).toArray HF8t.out (size35 _ (by simp [fetchC_len])) (by simp [fetchC_len]) (fetch_one _ _ _ _) ?_))
          exact ⟨⟨i + 1, A8, c8, takeH tr hh (k : Int) (cutAt X k) (proofL ((cutL X).map leafS) k), by go_num, by omega, HFn.out, HTn.out, Hst.out.1, fun j hj hji => (by
              have hke := Hk.out
              by_cases hjk : j = k
              · subst hjk; exact Hst.out.2.1
              · exact Hst.out.2.2 j (Hfl.out j hj (by omega))), HBn.out⟩, by simp [intOf]; omega⟩
        · rw [show (o : Int) = 8 from by have := Ho.out; omega] at hmod
          have Hmod := Lib.hid hmod
          have hq8 : 8 ≤ i := by have := Ho.out; omega
          have d1 : decide (i < 8) = false := decide_eq_false (by omega)
          have d2 : decide ((i : Int) < 8) = false := decide_eq_false (by omega)
          clear hmod
          go_upto_region 16 with fail
          rw [Hmod.out]
          clear d1 d2
          have Hpf := Lib.hid (Proof_any A3 m c3 k (cutL X) wr (Hg5.out.below HB.out) (HL5.out.below HB.out) (by omega) Hcs.out hkm)
          go_upto_region 17 with fail
          refine Hpf.out.mono ?_
          rintro e w7 ⟨A7, n7, c7, rfl, hn7, hr7, hb7⟩
          obtain ⟨bL, oL, v, z, rfl, hz, cz, hrz, hvz⟩ := ((HL5.out.below HB.out).below hb7).at_ hkm
          have hkX : k < (X.length + 1023) / 1024 := by rw [← Hm.out]; exact hkm
          rw [cutL_get X hkX] at hz
          obtain rfl : cutAt X k = z := Option.some.inj hz
          have hvn := hrz.len1
          have hvs := cutAt_len X k
          have hhl := Hgd.out.1
          have htk := take_right X Hgd.out hkX
          have hst := take_step X Hgd.out hkX
          rw [← Htr.out] at htk hst
          have HF7 := Lib.hid (HF.out.below hb7 HF.out.lt)
          have HT7 := Lib.hid (HT.out.below hb7)
          have Hg7 := Lib.hid ((Hg5.out.below HB.out).below hb7)
          have Hrz := Lib.hid hrz
          have Hr7 := Lib.hid hr7
          have Hb7 := Lib.hid hb7
          have Hst := Lib.hid hst
          have Htk := Lib.hid htk
          have hvb : v.n ≤ 1024 := by omega
          have hs7 := hb7.size
          clear hrz hr7 hb7 hst htk hvn hvs hhl hz Hpf HF HT Hgd
          go_upto_region 17 with fail
          have hrt7 : ∀ w', Ext w7 w' → w'.rangeAt tb 0 (fetchC tr A6 m c6) := fun w' hw' => fetch_range (HF7.out.below (ext_below hw') HF7.out.lt)
          have Hrt7 := Lib.hid hrt7
          have czr := cell_regrown cz
          clear hrt7
          go_cut [17, 18] from 101 to 111 (fun t17 t18 wx => ∃ (B : Nat) (A8 : Option Addr) (c8 : Nat), t17 = .pointer (some ⟨B, 0, none⟩) ∧ t18 = .int .i64 0 ∧ w7.heap.size ≤ B ∧ Blk wx B 35 (fetchC tr A8 m c8).toArray ∧ TLst wx A8 m (takeH tr hh (k : Int) (cutAt X k) (proofL ((cutL X).map leafS) k)) ∧ Below w7.heap.size w7 wx)
          case first =>
            refine wp_region_reads_tail 13 [0, 1, 2, 3, 4, 5, 6] 6 (by kernel_rfl) (List.take_append_drop _ _) rfl (by kernel_rfl) (by kernel_rfl) (by kernel_rfl) (by decide) (by kernel_rfl) (by kernel_rfl) (fun _ _ d _ _ h => by cases d <;> exact h) (by kernel_rfl) (by kernel_rfl) rfl ?_
            simp only [List.take_succ_cons, List.take_zero, List.drop_succ_cons, List.drop_zero, pickOps, List.getElem?_cons_zero, List.getElem?_cons_succ]
            refine wpQuiet_load_mid rfl 35 _ rfl tb 0 rfl (fetchC tr A6 m c6) _ Hrt7.out hd35 hrow35 (by rw [fetchC_len]; kernel_rfl) ?_
            simp only [Act.put, List.setIfInBounds_toArray, List.set_cons_succ, List.set_cons_zero]
            clear cz
            repeat (go_big_quiet_step (fail))
            refine wpQuiet_nil ?_
            refine chain_float (w0 := w7) (d := 17) (f := 11) (s := 12) (T := 35) (Z := (fetchC z32 none 0 0).toArray) (y := .tmp 110) (is1 := [8, 9, 10]) (by kernel_rfl) (fun _ _ d _ _ h => by cases d <;> exact h) (by kernel_rfl) rfl rfl rfl rfl (fun cells h => size35 _ (h.trans (by simp [fetchC_len]))) rfl rfl rfl rfl hi35 hz35 rfl [7] _ _ _ (by kernel_rfl) rfl (ext_drew (ext_refl _)) (by simp) ?_
            intro y1 W hW
            have hbW : Below w7.heap.size w7 W := ((Below.refl _ w7).drew).trans hW
            simp only [Act.put, List.setIfInBounds_toArray, List.set_cons_succ, List.set_cons_zero, pickOps, List.getElem?_cons_zero, List.getElem?_cons_succ]
            have htk := Take_typed tr A6 m c6 hh (k : Int) v.a v.n v.c (cutAt X k) A7 n7 c7 (proofL ((cutL X).map leafS) k) W (Hg7.out.below hbW) (HT7.out.lst.below hbW) (by omega) (Hrz.out.below hbW) (by omega) (Hr7.out.below hbW) hn7 (by omega)
            rw [Htk.out] at htk
            have Htk2 := Lib.hid htk
            clear htk hW
            intro K hK
            go_simp
            refine Htk2.out.mono ?_
            rintro e W3 ⟨A8, c8, rfl, _, hT8, hb8⟩
            refine hK _ _ rfl (by simp) hb8 ?_
            have HT8 := Lib.hid (hT8 (HT7.out.below hbW))
            have Hb8 := Lib.hid (hbW.trans (hb8.mono hbW.size))
            clear hK K Htk2 hT8 hb8 hbW
            intro y3 W4 hW4
            simp only [Act.put, List.setIfInBounds_toArray, List.set_cons_succ, List.set_cons_zero, chainP, finP, pickOps, List.getElem?_cons_zero, List.getElem?_cons_succ]
            repeat (go_big_quiet_step (fail))
            refine wpQuiet_nil ?_
            refine ⟨rfl, by simp, fun B W5 hB hb5 hblk => ⟨_, rfl, by simp [fetchC_len], fetch_one _ _ _ _, ?_⟩⟩
            have hbb := hW4.trans (hb5.mono hW4.size)
            have hb6 := Below.setRow (Hb8.out.trans (hbb.mono Hb8.out.size)) hB (fetchC tr A8 m c8).toArray
            have hT9 := ((HT8.out.below hbb).setRow hblk (cells := (fetchC tr A8 m c8).toArray))
            have hF9 : Blk (W5.setRow B (fetchC tr A8 m c8).toArray) B 35 (fetchC tr A8 m c8).toArray := setRow_heap _ _ _ _ _ _ hblk
            have Hb6 := Lib.hid hb6
            have HT9 := Lib.hid hT9
            have HF9 := Lib.hid hF9
            clear hb6 hW4 hb5 hblk Hb8 HT8 hbb hT9 hF9
            simp only [Exit.then, Act.put, List.setIfInBounds_toArray, List.set_cons_succ, List.set_cons_zero]
            go_wp2_with fail
            go_meet
            exact ⟨B, A8, c8, rfl, rfl, hB, HF9.out, HT9.out, Hb6.out⟩
          case' rest => skip
          obtain ⟨B, A8, c8, rfl, rfl, hB8, hF8, hT8, hb8⟩ := hcut
          obtain ⟨w8, hw8⟩ : ∃ v, v = wc := ⟨_, rfl⟩
          subst hw8
          have hF8t := HF7.out.below hb8 HF7.out.lt
          have hlt7 := HF7.out.lt
          have hK8 := (KeptIn.refl (fun q => q ≠ tb) w8).setRow (g := tb) (fun h => h rfl) (fetchC tr A8 m c8).toArray
          have hFn : Blk (w8.setRow tb (fetchC tr A8 m c8).toArray) tb 35 (fetchC tr A8 m c8).toArray := setRow_heap _ _ _ _ _ _ hF8t
          have HFn := Lib.hid hFn
          have HTn := Lib.hid (hT8.setRow hF8t (cells := (fetchC tr A8 m c8).toArray))
          have htb := Htb.out
          have HBn := Lib.hid (Below.setRow ((HB.out.trans (Hb7.out.mono hsz)).trans (hb8.mono (by omega))) (show w5.heap.size ≤ tb by omega) (fetchC tr A8 m c8).toArray)
          have HF8 := Lib.hid hF8
          have HF8t := Lib.hid hF8t
          clear hFn htb hF8 hT8 hb8 hF8t hK8 Hrt7 czr
          go_wp2_with (first | (refine wpList_load_mid rfl 35 (.tmp 17) rfl B 0 rfl (fetchC tr A8 m c8) _ (fetch_range HF8.out) hd35 hrow35 (by rw [fetchC_len]; kernel_rfl) ?_) | (refine wpList_store_row rfl 35 (.tmp 11) (.tmp 118) rfl tb (fetchC tr A8 m c8).toArray rfl rfl 35 (fetchC tr A6 m c6).toArray HF8t.out (size35 _ (by simp [fetchC_len])) (by simp [fetchC_len]) (fetch_one _ _ _ _) ?_))
          exact ⟨⟨i + 1, A8, c8, takeH tr hh (k : Int) (cutAt X k) (proofL ((cutL X).map leafS) k), by go_num, by omega, HFn.out, HTn.out, Hst.out.1, fun j hj hji => (by
              have hke := Hk.out
              by_cases hjk : j = k
              · subst hjk; exact Hst.out.2.1
              · exact Hst.out.2.2 j (Hfl.out j hj (by omega))), HBn.out⟩, by simp [intOf]; omega⟩
    · have hie : i = o + m := by omega
      have hall := all_there X Hgd.out (fun j hj => Hfl.out j (by rw [Hm.out]; exact hj) (by have := Hm.out; omega))
      have hT := HT.out
      rw [hall] at hT
      have hdn := Done_any tr A6 m c6 (cutL X) wr hT.lst (by omega) (by rw [cutL_all, HXl.out]; omega)
      rw [doneE_cut, doneL_cut, HXl.out] at hdn
      have Hdn := Lib.hid hdn
      have HTl := Lib.hid hT
      have Hr9 := Lib.hid (Hr5.out.below HB.out)
      clear hdn hT hall
      by_cases h8 : len' ≤ 8
      · have d1 : decide (i < len' + m) = false := decide_eq_false (by have := Ho.out; omega)
        have d2 : decide ((i : Int) < (len' : Int) + (m : Int)) = false := decide_eq_false (by have := Ho.out; omega)
        clear hie hlt hi
        go_upto_region 21 with fail
        clear d1 d2
        go_upto_region 22 with (refine wpList_load_mid rfl 35 (.tmp 11) rfl tb 0 rfl (fetchC tr A6 m c6) _ (fetch_range HF.out) hd35 hrow35 (by rw [fetchC_len]; kernel_rfl) ?_)
        refine Hdn.out.mono ?_
        rintro e w9 ⟨A9, c9, rfl, hr9, hb9⟩
        have hq1 : (convert 22 9 (.slice A9 L c9)).run Tryd.prog w9 = .ok (.string (str X)) w9 := convert_bytes A9 L c9 X _ hr9
        have hq2 : (convert 22 9 (.slice A2 L c2)).run Tryd.prog w9 = .ok (.string (str X)) w9 := convert_bytes A2 L c2 X _ (Hr9.out.below hb9)
        have hsb : ((str X).toList == (str X).toList) = true := by rw [str_beq, decide_eq_true rfl]
        have hwn := Want_any tr A6 m c6 (cutL X) w9 (HTl.out.lst.below hb9) (by omega)
        rw [(want_all (cutL X)).2 (allB_cut X)] at hwn
        have Hwn := Lib.hid hwn
        have HF9 := Lib.hid (HF.out.below hb9 HF.out.lt)
        have HB9 := Lib.hid ((HB5.out.trans (HB.out.mono HB5.out.size)).trans (hb9.mono (by omega)))
        clear hb9 hr9 hwn
        go_wp2_with (refine wpList_load_mid_g (by first | rfl | simp [Region.wanted, yielded]) 35 (.tmp 11) rfl tb 0 rfl (fetchC tr A6 m c6) _ (fetch_range HF9.out) hd35 hrow35 (by rw [fetchC_len]; kernel_rfl) ?_)
        refine Hwn.out.mono ?_
        rintro e w10 ⟨A10, c10, rfl, _, hb10⟩
        have HB10 := Lib.hid (HB9.out.trans (hb10.mono HB9.out.size))
        clear hb10 Hwn hq1 hq2 HF9 HB9
        go_wp2_with fail
        go_ret
        exact ⟨rfl, HB10.out⟩
      · have d1 : decide (i < 8 + m) = false := decide_eq_false (by have := Ho.out; omega)
        have d2 : decide ((i : Int) < 8 + (m : Int)) = false := decide_eq_false (by have := Ho.out; omega)
        have d3 : i < len' + m := by have := Ho.out; omega
        clear hie hlt hi
        go_upto_region 21 with fail
        clear d1 d2
        go_upto_region 22 with (refine wpList_load_mid rfl 35 (.tmp 11) rfl tb 0 rfl (fetchC tr A6 m c6) _ (fetch_range HF.out) hd35 hrow35 (by rw [fetchC_len]; kernel_rfl) ?_)
        refine Hdn.out.mono ?_
        rintro e w9 ⟨A9, c9, rfl, hr9, hb9⟩
        have hq1 : (convert 22 9 (.slice A9 L c9)).run Tryd.prog w9 = .ok (.string (str X)) w9 := convert_bytes A9 L c9 X _ hr9
        have hq2 : (convert 22 9 (.slice A2 L c2)).run Tryd.prog w9 = .ok (.string (str X)) w9 := convert_bytes A2 L c2 X _ (Hr9.out.below hb9)
        have hsb : ((str X).toList == (str X).toList) = true := by rw [str_beq, decide_eq_true rfl]
        have hwn := Want_any tr A6 m c6 (cutL X) w9 (HTl.out.lst.below hb9) (by omega)
        rw [(want_all (cutL X)).2 (allB_cut X)] at hwn
        have Hwn := Lib.hid hwn
        have HF9 := Lib.hid (HF.out.below hb9 HF.out.lt)
        have HB9 := Lib.hid ((HB5.out.trans (HB.out.mono HB5.out.size)).trans (hb9.mono (by omega)))
        clear hb9 hr9 hwn
        go_wp2_with (refine wpList_load_mid_g (by first | rfl | simp [Region.wanted, yielded]) 35 (.tmp 11) rfl tb 0 rfl (fetchC tr A6 m c6) _ (fetch_range HF9.out) hd35 hrow35 (by rw [fetchC_len]; kernel_rfl) ?_)
        refine Hwn.out.mono ?_
        rintro e w10 ⟨A10, c10, rfl, _, hb10⟩
        have HB10 := Lib.hid (HB9.out.trans (hb10.mono HB9.out.size))
        clear hb10 Hwn hq1 hq2 HF9 HB9
        go_wp2_with fail
        go_ret
        exact ⟨rfl, HB10.out⟩
end Go.Proofs.YthlecmmngldodaaDoor
