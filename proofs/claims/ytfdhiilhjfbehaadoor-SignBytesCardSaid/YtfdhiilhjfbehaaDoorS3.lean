/- Package sign and its reference: chains. -/
import Derived.Test.YtfdhiilhjfbehaaDoorS2
namespace Go.Proofs.YtfdhiilhjfbehaaDoor
open Go.RowKit Go.Sort

theorem sum_size (x : Sum32) : (sumC x).toArray.size = 32 := by rw [List.size_toArray, sumC_len]
set_option maxRecDepth 100000 in
set_option maxHeartbeats 1000000 in
theorem steps_any (x : Sum32) (n : Nat) (hn : n ≤ 1000) (w : World) (hg : Globs w) :
    Calls Tryd.prog 44 #[.agg (sumC x).toArray, .int .i64 (n : Int)] w fun e w' => e = .returned (.agg (sumC (stS x n)).toArray) ∧ Below w.heap.size w w' := by
  obtain ⟨i0, hi0, hz0, hz1, hz2⟩ := info_parts info5
  go_enter Tryd.func44, Tryd.ntmps44
  go_upto_region 1 with fail
  obtain ⟨w1, hw1⟩ : ∃ w1, w1 = (w.alloc (.cells (sumC x).toArray 26)).alloc (.cells zero32 26) := ⟨_, rfl⟩
  have hB1 : Below w.heap.size w w1 := by rw [hw1]; exact ((Below.refl _ _).alloc (Nat.le_refl _) _).alloc (by simp) _
  have hX1 : Blk w1 w.heap.size 26 (sumC x).toArray := by rw [hw1]; exact (Blk.new _ _ _).alloc _
  have hZ1 : Blk w1 (w.heap.size + 1) 26 zero32 := by
    have := Blk.new (w.alloc (.cells (sumC x).toArray 26)) 26 zero32
    rw [World.size_alloc] at this
    rw [hw1]; exact this
  simp only [zero32, List.replicate_succ, List.replicate_zero] at hw1
  rw [← hw1]
  clear hw1
  have Hg := Lib.hid hg
  have HB1 := Lib.hid hB1
  have HX1 := Lib.hid hX1
  have HZ1 := Lib.hid hZ1
  clear hB1 hX1 hZ1 hg
  go_wp2_with fail
  go_loopw [6] (fun v6 wr => ∃ i : Nat, v6 = .int .i64 (i : Int) ∧ i ≤ n ∧ Blk wr w.heap.size 26 (sumC (stS x i)).toArray ∧ Blk wr (w.heap.size + 1) 26 zero32 ∧ Below w.heap.size w wr) (fun v6 _ => n - (intOf v6).toNat)
  case atStart => exact ⟨0, rfl, by omega, HX1.out, HZ1.out, HB1.out⟩
  case round =>
    obtain ⟨i, rfl, hi, hX, hZ, hBr⟩ := hrel
    have HX := Lib.hid hX
    have HZ := Lib.hid hZ
    have HBr := Lib.hid hBr
    have hxr : Rd wr 1 (some ⟨w.heap.size, 0, none⟩) 32 (sumC (stS x i)) := by
      have := hX.rd (by rw [sumC_len]; omega)
      rwa [sumC_len] at this
    have Hxr := Lib.hid hxr
    have hszr := hBr.size
    clear hX hZ hBr hxr HX1 HZ1 HB1
    by_cases hlt : i < n
    · have d0 : decide ((i : Int) < (n : Int)) = true := decide_eq_true (by omega)
      go_wp2_with (at_builtin; refine wpList_app rfl (.tmp 8) (.tmp 9) 22 rfl 5 i0 (.int .u8 0) 1 Tryd.underlying22 hi0 hz0 hz1 hz2 rfl wr.heap.size (by simp) _ _ _ rfl (.inr (own_lit wr 5 (.int .u8 3))) (some ⟨w.heap.size, 0, none⟩) 32 32 (sumC (stS x i)) rfl (Hxr.out.alloc _) (oneB _) (by unfold maxLen; omega) (by omega) ?_; intro v' w2 happ hb1; obtain ⟨A1, c1, rfl, hc1, hrd1⟩ := happ.rd)
      have hB2 : Below wr.heap.size wr w2 := ((Below.refl _ _).alloc (Nat.le_refl _) _).trans hb1
      refine (Sum_any A1 (1 + 32) c1 (3 :: (stS x i).1) w2 ((Hg.out.below HBr.out).below hB2) hrd1 (by omega) hc1).mono ?_
      rintro e w3 ⟨rfl, hb3⟩
      have hB3 : Below wr.heap.size wr w3 := hB2.trans (hb3.mono hB2.size)
      have HX3 := Lib.hid (HX.out.below hB3 HX.out.lt)
      have HZ3 := Lib.hid (HZ.out.below hB3 HZ.out.lt)
      have HB3 := Lib.hid (HBr.out.trans (hB3.mono hszr))
      clear hB3 hb3 hb1 happ hrd1 hB2 d0
      have hk := (KeptIn.refl (fun k => k ≠ w.heap.size) w3).setRow (g := w.heap.size) (fun h => h rfl) (sumC (stS x (i + 1))).toArray
      have Hend := Lib.hid (show Blk (w3.setRow w.heap.size (sumC (stS x (i + 1))).toArray) w.heap.size 26 (sumC (stS x (i + 1))).toArray ∧ Blk (w3.setRow w.heap.size (sumC (stS x (i + 1))).toArray) (w.heap.size + 1) 26 zero32 ∧ Below w.heap.size w (w3.setRow w.heap.size (sumC (stS x (i + 1))).toArray) from
        ⟨setRow_heap _ _ _ _ _ _ HX3.out, HZ3.out.keptIn hk (show w.heap.size + 1 ≠ w.heap.size by omega), Below.setRow HB3.out (Nat.le_refl _) _⟩)
      clear hk
      go_wp2_with (refine wpList_store_row rfl 26 (.tmp 2) (.tmp 11) rfl (w.heap.size) (sumC (stS x (i + 1))).toArray rfl rfl 26 _ HX3.out (size32 _ (sum_size _)) ((sum_size _).trans (sum_size _).symm) (all_oneCell_toArray (oneB _)) ?_)
      exact ⟨⟨i + 1, by go_num, by omega, Hend.out⟩, by simp [intOf]; omega⟩
    · have he : i = n := by omega
      subst he
      have d0 : decide ((i : Int) < (i : Int)) = false := decide_eq_false (by omega)
      have d1 : decide (i < i) = false := decide_eq_false hlt
      have Hr2 := Lib.hid (Blk.range HX.out)
      clear hlt
      go_wp2_with (first | (refine wpList_load_mid rfl 26 (.tmp 2) rfl (w.heap.size) 0 rfl (sumC (stS x i)) _ (Hr2.out) und32 rfl (by rw [sumC_len]; kernel_rfl) ?_) | (refine wpList_store_row rfl 26 (.tmp 4) (.tmp 13) rfl (w.heap.size + 1) (sumC (stS x i)).toArray rfl rfl 26 _ HZ.out (size32 _ (sum_size _)) ((zero32_size).trans (sum_size _).symm) (all_oneCell_toArray (oneB _)) ?_))
      refine bodyPost_ret (results_cell_row rfl _ _ (w.heap.size + 1) 26 _ (0, 0) _ rfl (setRow_heap _ _ _ _ _ _ HZ.out) und32 rfl (size32 _ (sum_size _))) rfl ⟨rfl, Below.setRow HBr.out (by omega) _⟩
set_option maxRecDepth 100000 in
set_option maxHeartbeats 1000000 in
theorem RSteps_any (x : Sum32) (n : Nat) (hn : n ≤ 1000) (w : World) :
    Calls Tryd.prog 39 #[.agg (sumC x).toArray, .int .i64 (n : Int)] w fun e w' => e = .returned (.agg (sumC (stS x n)).toArray) ∧ Below w.heap.size w w' := by
  obtain ⟨i0, hi0, hz0, hz1, hz2⟩ := info_parts info5
  go_enter Tryd.func39, Tryd.ntmps39
  go_upto_region 1 with fail
  obtain ⟨w1, hw1⟩ : ∃ w1, w1 = (w.alloc (.cells (sumC x).toArray 26)).alloc (.cells zero32 26) := ⟨_, rfl⟩
  have hB1 : Below w.heap.size w w1 := by rw [hw1]; exact ((Below.refl _ _).alloc (Nat.le_refl _) _).alloc (by simp) _
  have hX1 : Blk w1 w.heap.size 26 (sumC x).toArray := by rw [hw1]; exact (Blk.new _ _ _).alloc _
  have hZ1 : Blk w1 (w.heap.size + 1) 26 zero32 := by
    have := Blk.new (w.alloc (.cells (sumC x).toArray 26)) 26 zero32
    rw [World.size_alloc] at this
    rw [hw1]; exact this
  simp only [zero32, List.replicate_succ, List.replicate_zero] at hw1
  rw [← hw1]
  clear hw1
  have HB1 := Lib.hid hB1
  have HX1 := Lib.hid hX1
  have HZ1 := Lib.hid hZ1
  clear hB1 hX1 hZ1
  go_wp2_with fail
  go_loopw [5] (fun v5 wr => ∃ i : Nat, v5 = .int .i64 (i : Int) ∧ i ≤ n ∧ Blk wr w.heap.size 26 (sumC (stS x i)).toArray ∧ Blk wr (w.heap.size + 1) 26 zero32 ∧ Below w.heap.size w wr) (fun v5 _ => n - (intOf v5).toNat)
  case atStart => exact ⟨0, rfl, by omega, HX1.out, HZ1.out, HB1.out⟩
  case round =>
    obtain ⟨i, rfl, hi, hX, hZ, hBr⟩ := hrel
    have HX := Lib.hid hX
    have HZ := Lib.hid hZ
    have HBr := Lib.hid hBr
    have hxr : Rd wr 1 (some ⟨w.heap.size, 0, none⟩) 32 (sumC (stS x i)) := by
      have := hX.rd (by rw [sumC_len]; omega)
      rwa [sumC_len] at this
    have Hxr := Lib.hid hxr
    have hszr := hBr.size
    clear hX hZ hBr hxr HX1 HZ1 HB1
    by_cases hlt : i < n
    · have d0 : decide ((i : Int) < (n : Int)) = true := decide_eq_true (by omega)
      go_wp2_with (at_builtin; refine wpList_app rfl (.tmp 11) (.tmp 12) 22 rfl 5 i0 (.int .u8 0) 1 Tryd.underlying22 hi0 hz0 hz1 hz2 rfl wr.heap.size (by simp) _ _ _ rfl (.inr (own_lit wr 5 (.int .u8 3))) (some ⟨w.heap.size, 0, none⟩) 32 32 (sumC (stS x i)) rfl (Hxr.out.alloc _) (oneB _) (by unfold maxLen; omega) (by omega) ?_; intro v' w2 happ hb1; obtain ⟨A1, c1, rfl, hc1, hrd1⟩ := happ.rd)
      have hB2 : Below wr.heap.size wr w2 := ((Below.refl _ _).alloc (Nat.le_refl _) _).trans hb1
      refine (RSum_any A1 (1 + 32) c1 (3 :: (stS x i).1) w2 hrd1 (by omega)).mono ?_
      rintro e w3 ⟨rfl, hb3⟩
      have hB3 : Below wr.heap.size wr w3 := hB2.trans (hb3.mono hB2.size)
      have HX3 := Lib.hid (HX.out.below hB3 HX.out.lt)
      have HZ3 := Lib.hid (HZ.out.below hB3 HZ.out.lt)
      have HB3 := Lib.hid (HBr.out.trans (hB3.mono hszr))
      clear hB3 hb3 hb1 happ hrd1 hB2 d0
      have hk := (KeptIn.refl (fun k => k ≠ w.heap.size) w3).setRow (g := w.heap.size) (fun h => h rfl) (sumC (stS x (i + 1))).toArray
      have Hend := Lib.hid (show Blk (w3.setRow w.heap.size (sumC (stS x (i + 1))).toArray) w.heap.size 26 (sumC (stS x (i + 1))).toArray ∧ Blk (w3.setRow w.heap.size (sumC (stS x (i + 1))).toArray) (w.heap.size + 1) 26 zero32 ∧ Below w.heap.size w (w3.setRow w.heap.size (sumC (stS x (i + 1))).toArray) from
        ⟨setRow_heap _ _ _ _ _ _ HX3.out, HZ3.out.keptIn hk (show w.heap.size + 1 ≠ w.heap.size by omega), Below.setRow HB3.out (Nat.le_refl _) _⟩)
      clear hk
      go_wp2_with (refine wpList_store_row rfl 26 (.tmp 2) (.tmp 14) rfl (w.heap.size) (sumC (stS x (i + 1))).toArray rfl rfl 26 _ HX3.out (size32 _ (sum_size _)) ((sum_size _).trans (sum_size _).symm) (all_oneCell_toArray (oneB _)) ?_)
      exact ⟨⟨i + 1, by go_num, by omega, Hend.out⟩, by simp [intOf]; omega⟩
    · have he : i = n := by omega
      subst he
      have d0 : decide ((i : Int) < (i : Int)) = false := decide_eq_false (by omega)
      have d1 : decide (i < i) = false := decide_eq_false hlt
      have Hr2 := Lib.hid (Blk.range HX.out)
      clear hlt
      go_wp2_with (first | (refine wpList_load_mid rfl 26 (.tmp 2) rfl (w.heap.size) 0 rfl (sumC (stS x i)) _ (Hr2.out) und32 rfl (by rw [sumC_len]; kernel_rfl) ?_) | (refine wpList_store_row rfl 26 (.tmp 4) (.tmp 15) rfl (w.heap.size + 1) (sumC (stS x i)).toArray rfl rfl 26 _ HZ.out (size32 _ (sum_size _)) ((zero32_size).trans (sum_size _).symm) (all_oneCell_toArray (oneB _)) ?_))
      refine bodyPost_ret (results_cell_row rfl _ _ (w.heap.size + 1) 26 _ (0, 0) _ rfl (setRow_heap _ _ _ _ _ _ HZ.out) und32 rfl (size32 _ (sum_size _))) rfl ⟨rfl, Below.setRow HBr.out (by omega) _⟩
end Go.Proofs.YtfdhiilhjfbehaaDoor
