/- The reference's Leaf, Pair and their bytes. -/
import Derived.Test.YtgblkaoioeceiaaDoorRSum
import Derived.Test.YtgblkaoioeceiaaDoorLeaves
namespace Go.Proofs.YtgblkaoioeceiaaDoor
open Go.RowKit Go.Sort

/-- A slice whose block has cells of this type. -/
def TRd (w : World) (e : TypeId) (sz : Nat) (A : Option Addr) (n : Nat) (xs : List Value) : Prop := Rd w sz A n xs ∧ (0 < n → ∀ b off, A = some ⟨b, off, none⟩ → ∃ cur, Blk w b e cur)
theorem TRd.rd {w : World} {e : TypeId} {sz n : Nat} {A : Option Addr} {xs : List Value} (h : TRd w e sz A n xs) : Rd w sz A n xs := h.1
theorem TRd.below {w w' : World} {e : TypeId} {sz n : Nat} {A : Option Addr} {xs : List Value} (h : TRd w e sz A n xs) (hb : Below w.heap.size w w') : TRd w' e sz A n xs :=
  ⟨h.1.below hb, fun hn b off e => by obtain ⟨cur, hc⟩ := h.2 hn b off e; exact ⟨cur, hc.below hb hc.lt⟩⟩
theorem App.trd {w : World} {base : Nat} {e : TypeId} {v : Value} {n : Nat} {xs : List Value} (h : App w base e v n xs) : ∃ A c, v = .slice A n c ∧ n ≤ c ∧ TRd w e 1 A n xs := by
  obtain ⟨A, c, rfl, hc, hr⟩ := h.rd
  refine ⟨A, c, rfl, hc, hr, fun hn b off e => ?_⟩
  subst e
  rcases h with ⟨h0, _⟩ | ⟨_, ⟨hv, _⟩ | ⟨g', cap, cur, hv, hb, hgg, _⟩⟩
  · omega
  · cases hv
  · cases hv
    exact ⟨cur, hgg⟩

set_option maxRecDepth 100000 in
set_option maxHeartbeats 1000000 in
theorem RLeafBytes_typed (A : Option Addr) (len cap : Nat) (bs : List UInt8) (w : World) (hr : Rd w 1 A len (bs.map byteV)) (hlen : len ≤ 8796093022000) :
    Calls Tryd.prog 37 #[.slice A len cap] w fun e w' => ∃ A' c', e = .returned (.slice A' (1 + len) c') ∧ 1 + len ≤ c' ∧ TRd w' 5 1 A' (1 + len) ((0 :: bs).map byteV) ∧ Below w.heap.size w w' := by
  obtain ⟨i0, hi0, hz0, hz1, hz2⟩ := info_parts info5
  have h1 := oneB bs
  have Hr := Lib.hid hr
  clear hr
  go_enter Tryd.func37, Tryd.ntmps37
  go_wp2_with (at_builtin; refine wpList_app rfl (.tmp 5) (.tmp 6) 22 rfl 5 i0 (.int .u8 0) 1 Tryd.underlying22 hi0 hz0 hz1 hz2 rfl w.heap.size (by simp) _ 1 _ rfl (.inr (own_lit w 5 (.int .u8 0))) A len cap (bs.map byteV) rfl (Hr.out.alloc _) h1 (by unfold maxLen; omega) (by omega) ?_; intro v' w2 happ hb1; obtain ⟨A1, c1, rfl, hc1, hrd1⟩ := happ.trd)
  go_ret
  exact ⟨A1, c1, rfl, hc1, hrd1, ((Below.refl _ _).alloc (Nat.le_refl _) _).trans hb1⟩
theorem RLeafBytes_any (A : Option Addr) (len cap : Nat) (bs : List UInt8) (w : World) (hr : Rd w 1 A len (bs.map byteV)) (hlen : len ≤ 8796093022000) :
    Calls Tryd.prog 37 #[.slice A len cap] w fun e w' => ∃ A' c', e = .returned (.slice A' (1 + len) c') ∧ 1 + len ≤ c' ∧ Rd w' 1 A' (1 + len) ((0 :: bs).map byteV) ∧ Below w.heap.size w w' :=
  (RLeafBytes_typed A len cap bs w hr hlen).mono fun e w' ⟨A', c', h1, h2, h3, h4⟩ => ⟨A', c', h1, h2, h3.1, h4⟩

set_option maxRecDepth 100000 in
set_option maxHeartbeats 1000000 in
theorem RPairBytes_typed (x y : List UInt8) (hx : x.length = 32) (hy : y.length = 32) (w : World) :
    Calls Tryd.prog 38 #[sumV x, sumV y] w fun e w' => ∃ A' c', e = .returned (.slice A' 65 c') ∧ 65 ≤ c' ∧ TRd w' 5 1 A' 65 ((1 :: x ++ y).map byteV) ∧ Below w.heap.size w w' := by
  obtain ⟨i0, hi0, hz0, hz1, hz2⟩ := info_parts info5
  go_enter Tryd.func38, Tryd.ntmps38
  unfold sumV
  go_upto_region 1 with fail
  obtain ⟨w1, hw1⟩ : ∃ w1, w1 = (w.alloc (.cells (x.map byteV).toArray 32)).alloc (.cells (y.map byteV).toArray 32) := ⟨_, rfl⟩
  have hB1 : Below w.heap.size w w1 := by rw [hw1]; exact ((Below.refl _ _).alloc (Nat.le_refl _) _).alloc (by simp) _
  have hs1 : w1.heap.size = w.heap.size + 2 := by rw [hw1]; simp
  have hX1 : Blk w1 w.heap.size 32 (x.map byteV).toArray := by rw [hw1]; exact (Blk.new _ _ _).alloc _
  have hY1 : Blk w1 (w.heap.size + 1) 32 (y.map byteV).toArray := by
    rw [hw1]
    have := Blk.new (w.alloc (.cells (x.map byteV).toArray 32)) 32 (y.map byteV).toArray
    rwa [World.size_alloc] at this
  rw [← hw1]
  have hxr := hX1.rd (by simp [hx])
  have hyr := hY1.rd (by simp [hy])
  rw [List.length_map, hx] at hxr
  rw [List.length_map, hy] at hyr
  have HB1 := Lib.hid hB1
  have Hxr := Lib.hid hxr
  have Hyr := Lib.hid hyr
  have Hs1 := Lib.hid hs1
  clear hw1 hB1 hxr hyr hs1 hX1 hY1
  go_wp2_with (first | (at_builtin; refine wpList_app rfl (.tmp 7) (.tmp 8) 22 rfl 5 i0 (.int .u8 0) 1 Tryd.underlying22 hi0 hz0 hz1 hz2 rfl w1.heap.size (by simp) _ 1 _ rfl (.inr (own_lit w1 5 (.int .u8 1))) (some ⟨w.heap.size, 0, none⟩) 32 32 (x.map byteV) rfl (Hxr.out.alloc _) (oneB _) (by unfold maxLen; omega) (by omega) ?_; intro v' w2 happ hb1; have hb2 : Below w1.heap.size w1 w2 := ((Below.refl _ _).alloc (Nat.le_refl _) _).trans hb1) | (at_builtin; refine wpList_app rfl (.tmp 10) (.tmp 11) 22 rfl 5 i0 (.int .u8 0) 1 Tryd.underlying22 hi0 hz0 hz1 hz2 rfl w1.heap.size hb2.size _ _ _ rfl happ (some ⟨w.heap.size + 1, 0, none⟩) 32 32 (y.map byteV) rfl (Hyr.out.below hb2) (oneB _) (by unfold maxLen; omega) (by omega) ?_; intro v2 w3 happ2 hb3; obtain ⟨A1, c1, rfl, hc1, hrd1⟩ := happ2.trd))
  go_ret
  exact ⟨A1, c1, rfl, by simpa using hc1, ⟨by simpa [byteV] using hrd1.1, fun h => hrd1.2 h⟩, HB1.out.trans ((hb2.trans hb3).mono (by have := Hs1.out; omega))⟩
theorem RPairBytes_any (x y : List UInt8) (hx : x.length = 32) (hy : y.length = 32) (w : World) :
    Calls Tryd.prog 38 #[sumV x, sumV y] w fun e w' => ∃ A' c', e = .returned (.slice A' 65 c') ∧ 65 ≤ c' ∧ Rd w' 1 A' 65 ((1 :: x ++ y).map byteV) ∧ Below w.heap.size w w' :=
  (RPairBytes_typed x y hx hy w).mono fun e w' ⟨A', c', h1, h2, h3, h4⟩ => ⟨A', c', h1, h2, h3.1, h4⟩

set_option maxRecDepth 100000 in
set_option maxHeartbeats 1000000 in
theorem RLeaf_any (A : Option Addr) (len cap : Nat) (bs : List UInt8) (w : World) (hr : Rd w 1 A len (bs.map byteV)) (hlen : len ≤ 8796093021000) :
    Calls Tryd.prog 17 #[.slice A len cap] w fun e w' => e = .returned (sumV (leaf bs)) ∧ Below w.heap.size w w' := by
  obtain ⟨i32, hi32, hz32, _, _⟩ := info_parts info32
  have hlf := leaf_length bs
  go_enter Tryd.func17, Tryd.ntmps17
  go_upto_region 1 with (refine wpList_alloc0 rfl 32 rfl zero32 (.agg zero32) i32 hi32 hz32 rfl ?_; simp only [Act.put, List.setIfInBounds_toArray, List.set_cons_succ, List.set_cons_zero])
  obtain ⟨w1, hw1⟩ : ∃ w1, w1 = w.alloc (.cells zero32 32) := ⟨_, rfl⟩
  have hB1 : Below w.heap.size w w1 := by rw [hw1]; exact (Below.refl _ _).alloc (Nat.le_refl _) _
  have hs1 : w1.heap.size = w.heap.size + 1 := by rw [hw1]; simp
  have hO1 : Blk w1 w.heap.size 32 zero32 := by rw [hw1]; exact Blk.new _ _ _
  rw [← hw1]
  have hr1 := hr.below hB1
  have HB1 := Lib.hid hB1
  have HO1 := Lib.hid hO1
  have Hr1 := Lib.hid hr1
  have Hs1 := Lib.hid hs1
  clear hw1 hr hB1 hO1 hs1 hr1
  go_wp2_with fail
  refine (RLeafBytes_any A len cap bs w1 Hr1.out (by omega)).mono ?_
  rintro e w2 ⟨A2, c2, rfl, hc2, hrd2, hb2⟩
  have Hrd2 := Lib.hid hrd2
  have Hb2 := Lib.hid hb2
  clear hrd2 hb2
  go_wp2_with fail
  refine (RSum_any A2 (1 + len) c2 (0 :: bs) w2 Hrd2.out (by omega)).mono ?_
  rintro e w3 ⟨rfl, hb3⟩
  have hB3 : Below w1.heap.size w1 w3 := Hb2.out.trans (hb3.mono Hb2.out.size)
  have hO3 : Blk w3 w.heap.size 32 zero32 := HO1.out.below hB3 (by have := Hs1.out; omega)
  have hB0 : Below w.heap.size w w3 := HB1.out.trans (hB3.mono (by have := Hs1.out; omega))
  have HO3 := Lib.hid hO3
  have HB0 := Lib.hid hB0
  clear hO3 hB0 hB3 hb3
  unfold sumV leaf at *
  go_wp2_with (refine wpList_store_row rfl 32 (.tmp 2) (.tmp 5) rfl w.heap.size ((sha (0 :: bs)).map byteV).toArray rfl rfl 32 zero32 HO3.out (size32 _ (sumV_size hlf)) ((zero32_size).trans (sumV_size hlf).symm) (all_oneCell_toArray (oneB _)) ?_)
  refine bodyPost_ret (results_cell_row rfl _ _ w.heap.size 32 ((sha (0 :: bs)).map byteV).toArray (0, 0) _ rfl (setRow_heap _ _ _ _ _ _ HO3.out) und32 rfl (size32 _ (sumV_size hlf))) rfl ⟨rfl, Below.setRow HB0.out (Nat.le_refl _) _⟩

set_option maxRecDepth 100000 in
set_option maxHeartbeats 1000000 in
theorem RPair_any (x y : List UInt8) (hx : x.length = 32) (hy : y.length = 32) (w : World) :
    Calls Tryd.prog 19 #[sumV x, sumV y] w fun e w' => e = .returned (sumV (pair x y)) ∧ Below w.heap.size w w' := by
  obtain ⟨i32, hi32, hz32, _, _⟩ := info_parts info32
  have hlf := pair_length x y
  have hsx := sumV_size hx
  have hsy := sumV_size hy
  go_enter Tryd.func19, Tryd.ntmps19
  unfold sumV
  go_upto_region 1 with (refine wpList_alloc0 rfl 32 rfl zero32 (.agg zero32) i32 hi32 hz32 rfl ?_; simp only [Act.put, List.setIfInBounds_toArray, List.set_cons_succ, List.set_cons_zero])
  obtain ⟨w1, hw1⟩ : ∃ w1, w1 = ((w.alloc (.cells (x.map byteV).toArray 32)).alloc (.cells (y.map byteV).toArray 32)).alloc (.cells zero32 32) := ⟨_, rfl⟩
  have hB1 : Below w.heap.size w w1 := by rw [hw1]; exact (((Below.refl _ _).alloc (Nat.le_refl _) _).alloc (by simp) _).alloc (by simp; omega) _
  have hs1 : w1.heap.size = w.heap.size + 3 := by rw [hw1]; simp
  have hX1 : Blk w1 w.heap.size 32 (x.map byteV).toArray := by rw [hw1]; exact ((Blk.new _ _ _).alloc _).alloc _
  have hY1 : Blk w1 (w.heap.size + 1) 32 (y.map byteV).toArray := by
    rw [hw1]
    have := (Blk.new (w.alloc (.cells (x.map byteV).toArray 32)) 32 (y.map byteV).toArray).alloc (.cells zero32 32)
    rwa [World.size_alloc] at this
  have hO1 : Blk w1 (w.heap.size + 1 + 1) 32 zero32 := by
    rw [hw1]
    have := Blk.new ((w.alloc (.cells (x.map byteV).toArray 32)).alloc (.cells (y.map byteV).toArray 32)) 32 zero32
    rwa [World.size_alloc, World.size_alloc] at this
  rw [← hw1]
  have HB1 := Lib.hid hB1
  have HO1 := Lib.hid hO1
  have HX1 := Lib.hid hX1
  have HY1 := Lib.hid hY1
  have Hs1 := Lib.hid hs1
  clear hw1 hB1 hO1 hs1 hX1 hY1
  go_wp2_with (first | (refine wpList_load_row rfl 32 (.tmp 2) rfl w.heap.size rfl 32 (x.map byteV).toArray (0, 0) _ HX1.out und32 rfl (size32 _ hsx) ?_) | (refine wpList_load_row rfl 32 (.tmp 3) rfl (w.heap.size + 1) rfl 32 (y.map byteV).toArray (0, 0) _ HY1.out und32 rfl (size32 _ hsy) ?_))
  refine (RPairBytes_any x y hx hy w1).mono ?_
  rintro e w2 ⟨A2, c2, rfl, hc2, hrd2, hb2⟩
  have Hrd2 := Lib.hid hrd2
  have Hb2 := Lib.hid hb2
  clear hrd2 hb2
  go_wp2_with fail
  refine (RSum_any A2 65 c2 (1 :: x ++ y) w2 Hrd2.out (by omega)).mono ?_
  rintro e w3 ⟨rfl, hb3⟩
  have hB3 : Below w1.heap.size w1 w3 := Hb2.out.trans (hb3.mono Hb2.out.size)
  have hO3 : Blk w3 (w.heap.size + 1 + 1) 32 zero32 := HO1.out.below hB3 (by have := Hs1.out; omega)
  have hB0 : Below w.heap.size w w3 := HB1.out.trans (hB3.mono (by have := Hs1.out; omega))
  have HO3 := Lib.hid hO3
  have HB0 := Lib.hid hB0
  clear hO3 hB0 hB3 hb3
  unfold sumV pair at *
  go_wp2_with (refine wpList_store_row rfl 32 (.tmp 4) (.tmp 8) rfl (w.heap.size + 1 + 1) ((sha (1 :: x ++ y)).map byteV).toArray rfl rfl 32 zero32 HO3.out (size32 _ (sumV_size hlf)) ((zero32_size).trans (sumV_size hlf).symm) (all_oneCell_toArray (oneB _)) ?_)
  refine bodyPost_ret (results_cell_row rfl _ _ (w.heap.size + 1 + 1) 32 ((sha (1 :: x ++ y)).map byteV).toArray (0, 0) _ rfl (setRow_heap _ _ _ _ _ _ HO3.out) und32 rfl (size32 _ (sumV_size hlf))) rfl ⟨rfl, Below.setRow HB0.out (by omega) _⟩
end Go.Proofs.YtgblkaoioeceiaaDoor
