/- The law FetchLimits. -/
import Derived.Test.YthlecmmngldodaaDoorF17
namespace Go.Proofs.YthlecmmngldodaaDoor
open Go.RowKit Go.Sort

theorem want_empty (k : Nat) : (wantL (List.replicate k [])).length = k := by
  unfold wantL wantF
  rw [List.length_replicate]
  rw [List.filter_eq_self.2 (fun i hi => by
    rw [List.getD_eq_getElem?_getD, List.getElem?_replicate, if_pos (List.mem_range.1 hi)]; rfl)]
  exact List.length_range

set_option maxRecDepth 100000 in
set_option maxHeartbeats 2000000 in
theorem FetchLimits_any (x y : Int) (tr : Sum32) (w : World) (hg : Globs w) (hx : -32768 ≤ x ∧ x ≤ 32767) (hy : -128 ≤ y ∧ y ≤ 127) :
    Calls Tryd.prog 8 #[.int .i16 x, .int .i8 y, .agg (sumC tr).toArray] w fun e w' => e = .returned (.bool true) ∧ Below w.heap.size w w' := by
  obtain ⟨i35, hi35, hz35, hs35, hy35⟩ := info_parts info35
  obtain ⟨d35, hd35, hrow35⟩ := und35
  have Hg := Lib.hid hg
  clear hg
  go_enter Tryd.func8, Tryd.ntmps8
  go_upto_region 1 with fail
  obtain ⟨w1, hw1⟩ : ∃ w1, w1 = w.alloc (.cells (sumC tr).toArray 33) := ⟨_, rfl⟩
  have hT1 : Blk w1 w.heap.size 33 (sumC tr).toArray := by rw [hw1]; exact Blk.new _ _ _
  have hb1 : Below w.heap.size w w1 := by rw [hw1]; exact (Below.refl _ _).alloc (Nat.le_refl _) _
  rw [← hw1]
  clear hw1
  have Hs := Lib.hid (Sanity_any w1 (Hg.out.below hb1))
  have HT1 := Lib.hid hT1
  have HB1 := Lib.hid hb1
  clear hT1 hb1
  go_wp2_with fail
  refine Hs.out.mono ?_
  rintro e w2 ⟨rfl, hb2⟩
  have HT2 := Lib.hid (HT1.out.below hb2 HT1.out.lt)
  have HB2 := Lib.hid (HB1.out.trans (hb2.mono HB1.out.size))
  clear hb2 Hs HT1 HB1
  go_upto_region 3 with fail
  obtain ⟨k, hk, hk1, hk2⟩ : ∃ k : Int, k = wrap64 (x.tmod 311 - 5) ∧ -400 ≤ k ∧ k ≤ 400 := by
    refine ⟨_, rfl, ?_⟩
    have h1 : -311 < x.tmod 311 ∧ x.tmod 311 < 311 := by
      rcases Int.le_total 0 x with h | h
      · rw [Int.tmod_eq_emod_of_nonneg h]; omega
      · rw [← Int.neg_neg x, Int.neg_tmod, Int.tmod_eq_emod_of_nonneg (by omega)]; omega
    unfold wrap64
    omega
  rw [← hk]
  clear hk
  obtain ⟨r, hr, hr1⟩ : ∃ r : Int, r = y.tmod 2 ∧ (r = -1 ∨ r = 0 ∨ r = 1) := by
    refine ⟨_, rfl, ?_⟩
    rcases Int.le_total 0 y with h | h
    · rw [Int.tmod_eq_emod_of_nonneg h]; omega
    · rw [← Int.neg_neg y, Int.neg_tmod, Int.tmod_eq_emod_of_nonneg (by omega)]; omega
  have Hr := Lib.hid hr
  have Hr1 := Lib.hid hr1
  clear hr hr1 hx hy
  have hrg2 : w2.rangeAt w.heap.size 0 (sumC tr) := HT2.out.range
  have Hrg2 := Lib.hid hrg2
  clear hrg2
  by_cases hgood : 1 ≤ k ∧ k ≤ 256
  · obtain ⟨n, rfl⟩ : ∃ n : Nat, k = (n : Int) := ⟨k.toNat, by omega⟩
    have h1 : 1 ≤ n := by omega
    have h2 : n ≤ 256 := by omega
    have Hn := Lib.hid (New_any (relC 0 0 0 n tr) n tr (relC_n 0 0 0 n tr) (relC_t 0 0 0 n tr) h1 h2 w2)
    clear hgood hk1 hk2
    go_upto_region 4 with (first | (refine wpList_load_mid rfl 33 (.tmp 5) rfl w.heap.size 0 rfl (sumC tr) _ Hrg2.out und32 rfl (by rw [sumC_len]; kernel_rfl) ?_) | (refine wpList_build2 rfl 41 5 6 (.tmp 20) (.tmp 21) rfl _ _ rfl rfl _ (builtRel n tr) ?_))
    refine Hn.out.mono ?_
    rintro e w3 ⟨A3, rfl, hL3, hb3⟩
    have HB3 := Lib.hid (HB2.out.trans (hb3.mono HB2.out.size))
    have HT3 := Lib.hid (HT2.out.below hb3 HT2.out.lt)
    have HL3 := Lib.hid hL3
    clear hb3 hL3 Hn HB2 HT2 Hrg2
    have hn3 : Blk (w3.alloc (.cells (fetchC z32 none 0 0).toArray 35)) w3.heap.size 35 (fetchC z32 none 0 0).toArray := Blk.new _ _ _
    have Hn3 := Lib.hid hn3
    clear hn3
    go_upto_region 4 with (first | (refine wpList_alloc0 rfl 35 rfl (fetchC z32 none 0 0).toArray _ i35 hi35 hz35 rfl ?_; simp only [Act.put, List.setIfInBounds_toArray, List.set_cons_succ, List.set_cons_zero]) | (refine wpList_store_row rfl 35 (.tmp 9) (.tmp 24) rfl w3.heap.size (fetchC tr A3 n n).toArray rfl rfl 35 (fetchC z32 none 0 0).toArray Hn3.out (size35 _ (by simp [fetchC_len])) (by simp [fetchC_len]) (fetch_one _ _ _ _) ?_))
    obtain ⟨w4, hw4⟩ : ∃ w4, w4 = (w3.alloc (.cells (fetchC z32 none 0 0).toArray 35)).setRow w3.heap.size (fetchC tr A3 n n).toArray := ⟨_, rfl⟩
    have hb4 : Below w3.heap.size w3 w4 := by rw [hw4]; exact Below.setRow ((Below.refl _ _).alloc (Nat.le_refl _) _) (Nat.le_refl _) _
    have hF4 : Blk w4 w3.heap.size 35 (fetchC tr A3 n n).toArray := by rw [hw4]; exact setRow_heap _ _ _ _ _ _ Hn3.out
    rw [← hw4]
    clear hw4 Hn3
    have HB4 := Lib.hid (HB3.out.trans (hb4.mono HB3.out.size))
    have HL4 := Lib.hid (HL3.out.below hb4)
    have HT4 := Lib.hid (HT3.out.below hb4 HT3.out.lt)
    have HF4 := Lib.hid hF4
    have hwt := Want_any tr A3 n n (List.replicate n []) w4 HL4.out (by omega)
    rw [want_empty] at hwt
    have Hwt := Lib.hid hwt
    clear hwt
    have HrT := Lib.hid (HT4.out.range)
    have HrF := Lib.hid (fetchC_tree HF4.out)
    have hc32 : w4.cell? ⟨w3.heap.size, 32, none⟩ = some (.slice A3 n n) := by rw [HF4.out.cell]; exact fetchC_have _ _ _ _
    have hne := run_neq_sum tr tr
    rw [decide_eq_true rfl] at hne
    clear hb4 hF4 HB3 HT3 HL3
    have g1 : decide ((1 : Int) ≤ (n : Int)) = true := decide_eq_true (by omega)
    have g2 : decide ((n : Int) ≤ 256) = true := decide_eq_true (by omega)
    have g3 : decide (1 ≤ n) = true := decide_eq_true (by omega)
    have g4 : decide (n ≤ 256) = true := decide_eq_true (by omega)
    have g5 : ((n : Int) != (n : Int)) = false := by simp
    go_wp2_with (first | (refine wpList_load_mid_g (by first | rfl | simp [Region.wanted, yielded]) 33 (.tmp 44) rfl w3.heap.size 0 rfl (sumC tr) _ HrF.out und32 rfl (by rw [sumC_len]; kernel_rfl) ?_) | (refine wpList_load_mid_g (by first | rfl | simp [Region.wanted, yielded]) 33 (.tmp 5) rfl w.heap.size 0 rfl (sumC tr) _ HrT.out und32 rfl (by rw [sumC_len]; kernel_rfl) ?_) | (refine wpList_load_mid_g (by first | rfl | simp [Region.wanted, yielded]) 35 (.tmp 9) rfl w3.heap.size 0 rfl (fetchC tr A3 n n) _ (fetch_range HF4.out) hd35 hrow35 (by rw [fetchC_len]; kernel_rfl) ?_))
    refine Hwt.out.mono ?_
    rintro e w5 ⟨A5, c5, rfl, _, hb5⟩
    have HB5 := Lib.hid (HB4.out.trans (hb5.mono HB4.out.size))
    clear hb5 Hwt HrT HrF HF4 HT4 HL4 HB4 hc32 hne
    go_upto_region 9 with fail
    clear g1 g2 g3 g4 g5
    obtain ⟨S, hS, hS1⟩ : ∃ S : Nat, wrap64 (262144 + wrap64 r) = (S : Int) ∧ (S = 262143 ∨ S = 262144 ∨ S = 262145) := by
      rcases Hr1.out with rfl | rfl | rfl
      · exact ⟨262143, by unfold wrap64; omega, .inl rfl⟩
      · exact ⟨262144, by unfold wrap64; omega, .inr (.inl rfl)⟩
      · exact ⟨262145, by unfold wrap64; omega, .inr (.inr rfl)⟩
    rw [← Hr.out, hS]
    clear hS Hr Hr1
    obtain ⟨wm, hwm⟩ : ∃ wm, wm = w5.alloc (.cells ((List.replicate S (0 : UInt8)).map byteV).toArray 5) := ⟨_, rfl⟩
    have hmk := mkBytes w5 S (by omega)
    have hbm : Below w5.heap.size w5 wm := by rw [hwm]; exact (Below.refl _ _).alloc (Nat.le_refl _) _
    have hrm : Rd wm 1 (some ⟨w5.heap.size, 0, none⟩) S ((List.replicate S (0 : UInt8)).map byteV) := by rw [hwm]; exact mkBytes_rd w5 S (by omega)
    rw [← hwm] at hmk
    clear hwm
    have HBm := Lib.hid (HB5.out.trans (hbm.mono HB5.out.size))
    have Hrm := Lib.hid hrm
    clear hbm hrm HB5
    by_cases hbig : 262144 < S
    · have hcb := Cut_bad (some ⟨w5.heap.size, 0, none⟩) S S wm (by omega) (.inr hbig)
      rw [if_neg (by omega)] at hcb
      have Hcb := Lib.hid hcb
      have d1 : decide (262144 < S) = true := decide_eq_true hbig
      have d2 : decide ((262144 : Int) < (S : Int)) = true := decide_eq_true (by omega)
      clear hcb hS1 hbig
      go_wp2_with fail
      refine Hcb.out.mono ?_
      rintro e wz ⟨rfl, hwz⟩
      subst hwz
      clear hmk
      go_wp2_with fail
      go_ret
      exact ⟨rfl, HBm.out⟩
    · have hca := Cut_any (some ⟨w5.heap.size, 0, none⟩) S S (List.replicate S 0) wm Hrm.out (by omega) (by omega) (Nat.le_refl _)
      rw [show (S + 1023) / 1024 = 256 from by omega] at hca
      have Hca := Lib.hid hca
      have d1 : decide (262144 < S) = false := decide_eq_false hbig
      have d2 : decide ((262144 : Int) < (S : Int)) = false := decide_eq_false (by omega)
      clear hca hS1 hbig
      go_wp2_with fail
      refine Hca.out.mono ?_
      rintro e wz ⟨Az, cz, rfl, _, _, hbz⟩
      have HBz := Lib.hid (HBm.out.trans (hbz.mono HBm.out.size))
      clear hmk hbz
      go_wp2_with fail
      go_ret
      exact ⟨rfl, HBz.out⟩
  · have hbd : k < 1 ∨ 256 < k := by omega
    have Hn := Lib.hid (New_bad (relC 0 0 0 k tr) k (relC_n 0 0 0 k tr) hbd w2)
    clear hgood
    go_upto_region 4 with (first | (refine wpList_load_mid rfl 33 (.tmp 5) rfl w.heap.size 0 rfl (sumC tr) _ Hrg2.out und32 rfl (by rw [sumC_len]; kernel_rfl) ?_) | (refine wpList_build2 rfl 41 5 6 (.tmp 20) (.tmp 21) rfl _ _ rfl rfl _ (builtRel k tr) ?_))
    refine Hn.out.mono ?_
    rintro e w3 ⟨rfl, hb3⟩
    have HB3 := Lib.hid (HB2.out.trans (hb3.mono HB2.out.size))
    clear hb3 Hn HB2 HT2 Hrg2
    have hn3 : Blk (w3.alloc (.cells (fetchC z32 none 0 0).toArray 35)) w3.heap.size 35 (fetchC z32 none 0 0).toArray := Blk.new _ _ _
    have Hn3 := Lib.hid hn3
    clear hn3
    go_upto_region 4 with (first | (refine wpList_alloc0 rfl 35 rfl (fetchC z32 none 0 0).toArray _ i35 hi35 hz35 rfl ?_; simp only [Act.put, List.setIfInBounds_toArray, List.set_cons_succ, List.set_cons_zero]) | (refine wpList_store_row rfl 35 (.tmp 9) (.tmp 24) rfl w3.heap.size (fetchC z32 none 0 0).toArray rfl rfl 35 (fetchC z32 none 0 0).toArray Hn3.out (size35 _ (by simp [fetchC_len])) rfl (fetch_one _ _ _ _) ?_))
    obtain ⟨w4, hw4⟩ : ∃ w4, w4 = (w3.alloc (.cells (fetchC z32 none 0 0).toArray 35)).setRow w3.heap.size (fetchC z32 none 0 0).toArray := ⟨_, rfl⟩
    have hb4 : Below w3.heap.size w3 w4 := by rw [hw4]; exact Below.setRow ((Below.refl _ _).alloc (Nat.le_refl _) _) (Nat.le_refl _) _
    rw [← hw4]
    clear hw4 Hn3
    have HB5 := Lib.hid (HB3.out.trans (hb4.mono HB3.out.size))
    clear hb4 HB3
    obtain ⟨w5, hw5⟩ : ∃ w5, w5 = w4 := ⟨_, rfl⟩
    subst hw5
    by_cases hb1 : k < 1
    · have g1 : decide ((1 : Int) ≤ k) = false := decide_eq_false (by omega)
      clear hbd hk1 hk2 hb1
      go_upto_region 9 with fail
      clear g1
      obtain ⟨S, hS, hS1⟩ : ∃ S : Nat, wrap64 (262144 + wrap64 r) = (S : Int) ∧ (S = 262143 ∨ S = 262144 ∨ S = 262145) := by
        rcases Hr1.out with rfl | rfl | rfl
        · exact ⟨262143, by unfold wrap64; omega, .inl rfl⟩
        · exact ⟨262144, by unfold wrap64; omega, .inr (.inl rfl)⟩
        · exact ⟨262145, by unfold wrap64; omega, .inr (.inr rfl)⟩
      rw [← Hr.out, hS]
      clear hS Hr Hr1
      obtain ⟨wm, hwm⟩ : ∃ wm, wm = w5.alloc (.cells ((List.replicate S (0 : UInt8)).map byteV).toArray 5) := ⟨_, rfl⟩
      have hmk := mkBytes w5 S (by omega)
      have hbm : Below w5.heap.size w5 wm := by rw [hwm]; exact (Below.refl _ _).alloc (Nat.le_refl _) _
      have hrm : Rd wm 1 (some ⟨w5.heap.size, 0, none⟩) S ((List.replicate S (0 : UInt8)).map byteV) := by rw [hwm]; exact mkBytes_rd w5 S (by omega)
      rw [← hwm] at hmk
      clear hwm
      have HBm := Lib.hid (HB5.out.trans (hbm.mono HB5.out.size))
      have Hrm := Lib.hid hrm
      clear hbm hrm HB5
      by_cases hbig : 262144 < S
      · have hcb := Cut_bad (some ⟨w5.heap.size, 0, none⟩) S S wm (by omega) (.inr hbig)
        rw [if_neg (by omega)] at hcb
        have Hcb := Lib.hid hcb
        have d1 : decide (262144 < S) = true := decide_eq_true hbig
        have d2 : decide ((262144 : Int) < (S : Int)) = true := decide_eq_true (by omega)
        clear hcb hS1 hbig
        go_wp2_with fail
        refine Hcb.out.mono ?_
        rintro e wz ⟨rfl, hwz⟩
        subst hwz
        clear hmk
        go_wp2_with fail
        go_ret
        exact ⟨rfl, HBm.out⟩
      · have hca := Cut_any (some ⟨w5.heap.size, 0, none⟩) S S (List.replicate S 0) wm Hrm.out (by omega) (by omega) (Nat.le_refl _)
        rw [show (S + 1023) / 1024 = 256 from by omega] at hca
        have Hca := Lib.hid hca
        have d1 : decide (262144 < S) = false := decide_eq_false hbig
        have d2 : decide ((262144 : Int) < (S : Int)) = false := decide_eq_false (by omega)
        clear hca hS1 hbig
        go_wp2_with fail
        refine Hca.out.mono ?_
        rintro e wz ⟨Az, cz, rfl, _, _, hbz⟩
        have HBz := Lib.hid (HBm.out.trans (hbz.mono HBm.out.size))
        clear hmk hbz
        go_wp2_with fail
        go_ret
        exact ⟨rfl, HBz.out⟩
    · have g1 : decide ((1 : Int) ≤ k) = true := decide_eq_true (by omega)
      have g2 : decide (k ≤ 256) = false := decide_eq_false (by omega)
      clear hbd hk1 hk2 hb1
      go_upto_region 9 with fail
      clear g1 g2
      obtain ⟨S, hS, hS1⟩ : ∃ S : Nat, wrap64 (262144 + wrap64 r) = (S : Int) ∧ (S = 262143 ∨ S = 262144 ∨ S = 262145) := by
        rcases Hr1.out with rfl | rfl | rfl
        · exact ⟨262143, by unfold wrap64; omega, .inl rfl⟩
        · exact ⟨262144, by unfold wrap64; omega, .inr (.inl rfl)⟩
        · exact ⟨262145, by unfold wrap64; omega, .inr (.inr rfl)⟩
      rw [← Hr.out, hS]
      clear hS Hr Hr1
      obtain ⟨wm, hwm⟩ : ∃ wm, wm = w5.alloc (.cells ((List.replicate S (0 : UInt8)).map byteV).toArray 5) := ⟨_, rfl⟩
      have hmk := mkBytes w5 S (by omega)
      have hbm : Below w5.heap.size w5 wm := by rw [hwm]; exact (Below.refl _ _).alloc (Nat.le_refl _) _
      have hrm : Rd wm 1 (some ⟨w5.heap.size, 0, none⟩) S ((List.replicate S (0 : UInt8)).map byteV) := by rw [hwm]; exact mkBytes_rd w5 S (by omega)
      rw [← hwm] at hmk
      clear hwm
      have HBm := Lib.hid (HB5.out.trans (hbm.mono HB5.out.size))
      have Hrm := Lib.hid hrm
      clear hbm hrm HB5
      by_cases hbig : 262144 < S
      · have hcb := Cut_bad (some ⟨w5.heap.size, 0, none⟩) S S wm (by omega) (.inr hbig)
        rw [if_neg (by omega)] at hcb
        have Hcb := Lib.hid hcb
        have d1 : decide (262144 < S) = true := decide_eq_true hbig
        have d2 : decide ((262144 : Int) < (S : Int)) = true := decide_eq_true (by omega)
        clear hcb hS1 hbig
        go_wp2_with fail
        refine Hcb.out.mono ?_
        rintro e wz ⟨rfl, hwz⟩
        subst hwz
        clear hmk
        go_wp2_with fail
        go_ret
        exact ⟨rfl, HBm.out⟩
      · have hca := Cut_any (some ⟨w5.heap.size, 0, none⟩) S S (List.replicate S 0) wm Hrm.out (by omega) (by omega) (Nat.le_refl _)
        rw [show (S + 1023) / 1024 = 256 from by omega] at hca
        have Hca := Lib.hid hca
        have d1 : decide (262144 < S) = false := decide_eq_false hbig
        have d2 : decide ((262144 : Int) < (S : Int)) = false := decide_eq_false (by omega)
        clear hca hS1 hbig
        go_wp2_with fail
        refine Hca.out.mono ?_
        rintro e wz ⟨Az, cz, rfl, _, _, hbz⟩
        have HBz := Lib.hid (HBm.out.trans (hbz.mono HBm.out.size))
        clear hmk hbz
        go_wp2_with fail
        go_ret
        exact ⟨rfl, HBz.out⟩
end Go.Proofs.YthlecmmngldodaaDoor
