/- Package hash: Leaf, Pair. -/
import Derived.Test.YtgblkaoioeceiaaDoorSum
namespace Go.Proofs.YtgblkaoioeceiaaDoor
open Go.RowKit

theorem own_lit (w : World) (e : TypeId) (v : Value) : (w.alloc (.cells #[v] e)).ownsRow w.heap.size e 1 (.slice (some ⟨w.heap.size, 0, none⟩) 1 1) 1 [v] :=
  ⟨rfl, .inr ⟨_, 1, #[v], rfl, Nat.le_refl _, heap_alloc_new _ _, Nat.le_refl _, by unfold maxLen; omega, rfl, rfl⟩⟩
def zero32 : Array Value := (List.replicate 32 (Value.int .u8 0)).toArray
theorem zero32_size : zero32.size = 32 := rfl
theorem Blk.rd {W : World} {B : Nat} {t : TypeId} {xs : List Value} (h : Blk W B t xs.toArray) (hl : xs.length ≤ 9223372036854775807) : Rd W 1 (some ⟨B, 0, none⟩) xs.length xs :=
  ⟨by simp, hl, fun _ => ⟨B, 0, rfl, fun j u hu => by rw [h.cell, Nat.zero_add]; simpa using hu⟩⟩
def leaf (b : List UInt8) : List UInt8 := sha (0 :: b)
def pair (a b : List UInt8) : List UInt8 := sha (1 :: a ++ b)
theorem leaf_length (b : List UInt8) : (leaf b).length = 32 := sha_length _
theorem pair_length (a b : List UInt8) : (pair a b).length = 32 := sha_length _
theorem sumV_size {h : List UInt8} (hl : h.length = 32) : ((h.map byteV).toArray).size = 32 := by simp [hl]

set_option maxRecDepth 100000 in
set_option maxHeartbeats 1000000 in
theorem Leaf_any (A : Option Addr) (len cap : Nat) (bs : List UInt8) (w : World) (hg : Globs w) (hr : Rd w 1 A len (bs.map byteV)) (hlen : len ≤ 8796093022000) :
    Calls Tryd.prog 16 #[.slice A len cap] w fun e w' => e = .returned (sumV (leaf bs)) ∧ Below w.heap.size w w' := by
  obtain ⟨i0, hi0, hz0, hz1, hz2⟩ := info_parts info5
  have hl := hr.len1
  have h1 := oneB bs
  have hlf := leaf_length bs
  go_enter Tryd.func16, Tryd.ntmps16
  go_upto_region 1 with fail
  obtain ⟨w1, hw1⟩ : ∃ w1, w1 = w.alloc (.cells zero32 32) := ⟨_, rfl⟩
  have hB1 : Below w.heap.size w w1 := by rw [hw1]; exact (Below.refl _ _).alloc (Nat.le_refl _) _
  have hs1 : w1.heap.size = w.heap.size + 1 := by rw [hw1]; simp
  have hO1 : Blk w1 w.heap.size 32 zero32 := by rw [hw1]; exact Blk.new _ _ _
  simp only [zero32, List.replicate_succ, List.replicate_zero] at hw1
  rw [← hw1]
  have hr1 := hr.below hB1
  have hg1 := hg.below hB1
  have HB1 := Lib.hid hB1
  have HO1 := Lib.hid hO1
  have Hg1 := Lib.hid hg1
  have Hs1 := Lib.hid hs1
  clear hw1 hg hr hB1 hO1 hg1 hs1
  go_wp2_with (at_builtin; refine wpList_app rfl (.tmp 3) (.tmp 4) 22 rfl 5 i0 (.int .u8 0) 1 Tryd.underlying22 hi0 hz0 hz1 hz2 rfl w1.heap.size (by simp) _ 1 _ rfl (.inr (own_lit w1 5 (.int .u8 0))) A len cap (bs.map byteV) rfl (hr1.alloc _) h1 (by unfold maxLen; omega) (by omega) ?_; intro v' w2 happ hb1; obtain ⟨A1, c1, rfl, hc1, hrd1⟩ := happ.rd)
  have hB2 : Below w1.heap.size w1 w2 := ((Below.refl _ _).alloc (Nat.le_refl _) _).trans hb1
  refine (Sum_any A1 (1 + len) c1 (0 :: bs) w2 (Hg1.out.below hB2) hrd1 (by omega) hc1).mono ?_
  rintro e w3 ⟨rfl, hb3⟩
  have hB3 : Below w1.heap.size w1 w3 := hB2.trans (hb3.mono hB2.size)
  have hO3 : Blk w3 w.heap.size 32 zero32 := HO1.out.below hB3 (by have := Hs1.out; omega)
  have hB0 : Below w.heap.size w w3 := HB1.out.trans (hB3.mono (by have := Hs1.out; omega))
  have HO3 := Lib.hid hO3
  have HB0 := Lib.hid hB0
  clear hO3 hB0 hB3 hb3 hb1 happ hrd1 hB2
  go_wp2_with (refine wpList_store_row rfl 32 (.tmp 2) (.tmp 6) rfl _ _ rfl rfl 32 _ HO3.out (size32 _ (sumV_size hlf)) ((zero32_size).trans (sumV_size hlf).symm) (all_oneCell_toArray (oneB _)) ?_)
  refine bodyPost_ret (results_cell_row rfl _ _ w.heap.size 32 _ (0, 0) _ rfl (setRow_heap _ _ _ _ _ _ HO3.out) und32 rfl (size32 _ (sumV_size hlf))) rfl ⟨rfl, Below.setRow HB0.out (Nat.le_refl _) _⟩

set_option maxRecDepth 100000 in
set_option maxHeartbeats 1000000 in
theorem Pair_any (x y : List UInt8) (hx : x.length = 32) (hy : y.length = 32) (w : World) (hg : Globs w) :
    Calls Tryd.prog 18 #[sumV x, sumV y] w fun e w' => e = .returned (sumV (pair x y)) ∧ Below w.heap.size w w' := by
  obtain ⟨i0, hi0, hz0, hz1, hz2⟩ := info_parts info5
  have hlf := pair_length x y
  go_enter Tryd.func18, Tryd.ntmps18
  unfold sumV
  go_upto_region 1 with fail
  obtain ⟨w1, hw1⟩ : ∃ w1, w1 = ((w.alloc (.cells (x.map byteV).toArray 32)).alloc (.cells (y.map byteV).toArray 32)).alloc (.cells zero32 32) := ⟨_, rfl⟩
  have hB1 : Below w.heap.size w w1 := by rw [hw1]; exact (((Below.refl _ _).alloc (Nat.le_refl _) _).alloc (by simp) _).alloc (by simp; omega) _
  have hs1 : w1.heap.size = w.heap.size + 3 := by rw [hw1]; simp
  have hX1 : Blk w1 w.heap.size 32 (x.map byteV).toArray := by rw [hw1]; exact ((Blk.new _ _ _).alloc _).alloc _
  have hY1 : Blk w1 (w.heap.size + 1) 32 (y.map byteV).toArray := by
    rw [hw1]
    have := (Blk.new (w.alloc (.cells (x.map byteV).toArray 32)) 32 (y.map byteV).toArray).alloc (.cells zero32 32)
    rwa [World.size_alloc] at this
  have hO1 : Blk w1 (w.heap.size + 1 + 1) 32 zero32 := by
    rw [hw1]
    have := Blk.new ((w.alloc (.cells (x.map byteV).toArray 32)).alloc (.cells (y.map byteV).toArray 32)) 32 zero32
    rwa [World.size_alloc, World.size_alloc] at this
  simp only [zero32, List.replicate_succ, List.replicate_zero] at hw1
  rw [← hw1]
  have hxr := hX1.rd (by simp [hx])
  have hyr := hY1.rd (by simp [hy])
  rw [List.length_map, hx] at hxr
  rw [List.length_map, hy] at hyr
  have hg1 := hg.below hB1
  have HB1 := Lib.hid hB1
  have HO1 := Lib.hid hO1
  have Hg1 := Lib.hid hg1
  have Hxr := Lib.hid hxr
  have Hyr := Lib.hid hyr
  have Hs1 := Lib.hid hs1
  clear hw1 hg hB1 hO1 hg1 hxr hyr hs1 hX1 hY1
  go_wp2_with (first | (at_builtin; refine wpList_app rfl (.tmp 6) (.tmp 7) 22 rfl 5 i0 (.int .u8 0) 1 Tryd.underlying22 hi0 hz0 hz1 hz2 rfl w1.heap.size (by simp) _ 1 _ rfl (.inr (own_lit w1 5 (.int .u8 1))) (some ⟨w.heap.size, 0, none⟩) 32 32 (x.map byteV) rfl (Hxr.out.alloc _) (oneB _) (by unfold maxLen; omega) (by omega) ?_; intro v' w2 happ hb1; have hb2 : Below w1.heap.size w1 w2 := ((Below.refl _ _).alloc (Nat.le_refl _) _).trans hb1) | (at_builtin; refine wpList_app rfl (.tmp 9) (.tmp 10) 22 rfl 5 i0 (.int .u8 0) 1 Tryd.underlying22 hi0 hz0 hz1 hz2 rfl w1.heap.size hb2.size _ _ _ rfl happ (some ⟨w.heap.size + 1, 0, none⟩) 32 32 (y.map byteV) rfl (Hyr.out.below hb2) (oneB _) (by unfold maxLen; omega) (by omega) ?_; intro v2 w3 happ2 hb3; obtain ⟨A1, c1, rfl, hc1, hrd1⟩ := happ2.rd))
  have hB2 : Below w1.heap.size w1 w3 := hb2.trans hb3
  refine (Sum_any A1 (1 + 32 + 32) c1 (1 :: x ++ y) w3 (Hg1.out.below hB2) (by simpa [byteV] using hrd1) (by omega) hc1).mono ?_
  rintro e w4 ⟨rfl, hb4⟩
  have hB3 : Below w1.heap.size w1 w4 := hB2.trans (hb4.mono hB2.size)
  have hO3 : Blk w4 (w.heap.size + 1 + 1) 32 zero32 := HO1.out.below hB3 (by have := Hs1.out; omega)
  have hB0 : Below w.heap.size w w4 := HB1.out.trans (hB3.mono (by have := Hs1.out; omega))
  have HO3 := Lib.hid hO3
  have HB0 := Lib.hid hB0
  clear hO3 hB0 hB3 hb3 hb1 hb2 happ happ2 hrd1 hB2 hb4
  go_wp2_with (refine wpList_store_row rfl 32 (.tmp 4) (.tmp 12) rfl _ _ rfl rfl 32 _ HO3.out (size32 _ (sumV_size hlf)) ((zero32_size).trans (sumV_size hlf).symm) (all_oneCell_toArray (oneB _)) ?_)
  refine bodyPost_ret (results_cell_row rfl _ _ (w.heap.size + 1 + 1) 32 _ (0, 0) _ rfl (setRow_heap _ _ _ _ _ _ HO3.out) und32 rfl (size32 _ (sumV_size hlf))) rfl ⟨rfl, Below.setRow HB0.out (by omega) _⟩
end Go.Proofs.YtgblkaoioeceiaaDoor
