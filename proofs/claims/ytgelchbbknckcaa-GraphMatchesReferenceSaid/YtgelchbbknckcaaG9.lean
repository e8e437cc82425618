/- Package graph's reference: needs of small numbers. -/
import Derived.Test.YtgelchbbknckcaaG8
namespace Go.Proofs.Ytgelchbbknckcaa
open Go.RowKit Go.Sort

def needN (a b c : UInt8) : Nd := ⟨(a.toNat % 4 : Nat), (a.toNat / 64 : Nat), (b.toNat % 8 : Nat), (c.toNat % 4 : Nat), (c.toNat / 64 : Nat)⟩
theorem built28 (n : Nd) : Try.prog.built 28 [(0, .int .i64 n.s), (1, .int .i64 n.u), (2, .int .i64 n.r), (3, .int .i64 n.e), (4, .int .i64 n.o)] = some (ndV n).toArray := by kernel_rfl
theorem size28 (cs : Array Value) (h : cs.size = 5) : (Try.prog.info? 28).map (·.size) = some cs.size := by rw [h]; kernel_rfl

set_option maxRecDepth 100000 in
set_option maxHeartbeats 1000000 in
theorem Need_any (a b c : UInt8) (w : World) : Calls Try.prog 13 #[.agg #[byteV a, byteV b, byteV c]] w fun e w' => e = .returned (.agg (ndV (needN a b c)).toArray) ∧ Below w.heap.size w w' := by
  obtain ⟨i28, hi28, hz28, hs28, hy28⟩ := info_parts info28
  obtain ⟨d28, hd28, hrow28⟩ := und28
  go_enter Try.func13, Try.ntmps13
  go_upto_region 1 with (refine wpList_alloc0 rfl 28 rfl (ndV nd0).toArray _ i28 hi28 hz28 rfl ?_; simp only [Act.put, List.setIfInBounds_toArray, List.set_cons_succ, List.set_cons_zero, World.size_alloc])
  obtain ⟨w1, hw1⟩ : ∃ v, v = (w.alloc (.cells #[byteV a, byteV b, byteV c] 36)).alloc (.cells (ndV nd0).toArray 28) := ⟨_, rfl⟩
  have hB : Below w.heap.size w w1 := by rw [hw1]; exact ((Below.refl _ _).alloc (Nat.le_refl _) _).alloc (by simp) _
  have hC : Blk w1 w.heap.size 36 #[byteV a, byteV b, byteV c] := by rw [hw1]; exact (Blk.new _ _ _).alloc _
  have hO : Blk w1 (w.heap.size + 1) 28 (ndV nd0).toArray := by
    have := Blk.new (w.alloc (.cells #[byteV a, byteV b, byteV c] 36)) 28 (ndV nd0).toArray
    rw [World.size_alloc] at this
    rw [hw1]; exact this
  rw [← hw1]
  clear hw1
  have c0 : w1.cell? ⟨w.heap.size, 0, none⟩ = some (.int .u8 (a.toNat : Int)) := by rw [hC.cell]; rfl
  have c1 : w1.cell? ⟨w.heap.size, 1, none⟩ = some (.int .u8 (b.toNat : Int)) := by rw [hC.cell]; rfl
  have c2 : w1.cell? ⟨w.heap.size, 2, none⟩ = some (.int .u8 (c.toNat : Int)) := by rw [hC.cell]; rfl
  have HO := Lib.hid hO
  have HB := Lib.hid hB
  have hx0 := a.toNat_lt
  have hx1 := b.toNat_lt
  have hx2 := c.toNat_lt
  have Hbl := Lib.hid (built28 (needN a b c))
  clear hO hB hC
  go_wp2_with (first | (refine wpList_buildN rfl 28 _ rfl [(0, .int .i64 (needN a b c).s), (1, .int .i64 (needN a b c).u), (2, .int .i64 (needN a b c).r), (3, .int .i64 (needN a b c).e), (4, .int .i64 (needN a b c).o)] (by simp [needN]; exact ⟨rfl, rfl, rfl, rfl, rfl⟩) _ Hbl.out ?_) | (refine wpList_store_row rfl 28 (.tmp 2) (.tmp 23) rfl (w.heap.size + 1) (ndV (needN a b c)).toArray rfl rfl 28 (ndV nd0).toArray HO.out (size28 _ rfl) rfl (nd_one _) ?_))
  refine bodyPost_ret (results_cell_row rfl _ _ (w.heap.size + 1) 28 (ndV (needN a b c)).toArray (0, 0) d28 rfl (setRow_heap _ _ _ _ _ _ HO.out) hd28 (by cases d28 <;> first | rfl | exact hrow28) (size28 _ rfl)) rfl ⟨rfl, Below.setRow HB.out (by omega) _⟩
end Go.Proofs.Ytgelchbbknckcaa
