/- The laws of package graph: limits. -/
import Derived.Test.YtgelchbbknckcaaG11
import Derived.Test.YtgelchbbknckcaaG12
namespace Go.Proofs.Ytgelchbbknckcaa
open Go.RowKit Go.Sort

def limN (ram : Int) : Nd := ⟨100, 100, ram, 100, 100⟩
set_option maxRecDepth 100000 in
set_option maxHeartbeats 1000000 in
theorem limits_any (ram : Int) (w : World) : Calls Try.prog 27 #[.int .i64 ram] w fun e w' => e = .returned (.agg (ndV (limN ram)).toArray) ∧ Below w.heap.size w w' := by
  obtain ⟨i28, hi28, hz28, hs28, hy28⟩ := info_parts info28
  obtain ⟨d28, hd28, hrow28⟩ := und28
  go_enter Try.func27, Try.ntmps27
  go_upto_region 1 with (refine wpList_alloc0 rfl 28 rfl (ndV nd0).toArray _ i28 hi28 hz28 rfl ?_; simp only [Act.put, List.setIfInBounds_toArray, List.set_cons_succ, List.set_cons_zero])
  obtain ⟨w1, hw1⟩ : ∃ v, v = w.alloc (.cells (ndV nd0).toArray 28) := ⟨_, rfl⟩
  have hB : Below w.heap.size w w1 := by rw [hw1]; exact (Below.refl _ _).alloc (Nat.le_refl _) _
  have hO : Blk w1 w.heap.size 28 (ndV nd0).toArray := by rw [hw1]; exact Blk.new _ _ _
  rw [← hw1]
  clear hw1
  have HO := Lib.hid hO
  have HB := Lib.hid hB
  clear hO hB
  go_wp2_with (first | (refine wpList_buildN rfl 28 _ rfl [(0, .int .i64 100), (1, .int .i64 100), (2, .int .i64 ram), (3, .int .i64 100), (4, .int .i64 100)] rfl _ (built28 (limN ram)) ?_) | (refine wpList_store_row rfl 28 (.tmp 2) (.tmp 4) rfl w.heap.size (ndV (limN ram)).toArray rfl rfl 28 (ndV nd0).toArray HO.out (size28 _ rfl) rfl (nd_one _) ?_))
  refine bodyPost_ret (results_cell_row rfl _ _ w.heap.size 28 (ndV (limN ram)).toArray (0, 0) d28 rfl (setRow_heap _ _ _ _ _ _ HO.out) hd28 (by cases d28 <;> first | rfl | exact hrow28) (size28 _ rfl)) rfl ⟨rfl, Below.setRow HB.out (Nat.le_refl _) _⟩
end Go.Proofs.Ytgelchbbknckcaa
