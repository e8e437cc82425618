/- The reference's Leaf, Pair and their bytes. The reference's Leaves. The reference's up. The reference's Root. -/
import Derived.Test.YtfdhiilhjfbehaaDoorH6
import Derived.Test.YtfdhiilhjfbehaaDoorH3
import Derived.Test.YtfdhiilhjfbehaaDoorH4
namespace Go.Proofs.YtfdhiilhjfbehaaDoor
section
open Go.RowKit Go.Sort

/-- A slice whose block has cells of this type. -/
def TRd (w : World) (e : TypeId) (sz : Nat) (A : Option Addr) (n : Nat) (xs : List Value) : Prop := Rd w sz A n xs ∧ (0 < n → ∀ b off, A = some ⟨b, off, none⟩ → ∃ cur, Blk w b e cur)
theorem TRd.rd {w : World} {e : TypeId} {sz n : Nat} {A : Option Addr} {xs : List Value} (h : TRd w e sz A n xs) : Rd w sz A n xs := h.1
theorem TRd.below {w w' : World} {e : TypeId} {sz n : Nat} {A : Option Addr} {xs : List Value} (h : TRd w e sz A n xs) (hb : Below w.heap.size w w') : TRd w' e sz A n xs :=
  ⟨h.1.below hb, fun hn b off e => by obtain ⟨cur, hc⟩ := h.2 hn b off e; exact ⟨cur, hc.below hb hc.lt⟩⟩
theorem App.trd {w : World} {base : Nat} {e : TypeId} {v : Value} {n : Nat} {xs : List Value} (h : App w base e v n xs) : ∃ A c, v = .slice A n c ∧ n ≤ c ∧ TRd w e 1 A n xs := by
  obtain ⟨A, c, rfl, hc, hr⟩ := h.rd
  refine ⟨A, c, rfl, hc, hr, fun hn b off e => ?_⟩
  subst e
  rcases h with ⟨h0, _⟩ | ⟨_, ⟨hv, _⟩ | ⟨g', cap, cur, hv, hb, hgg, _⟩⟩
  · omega
  · cases hv
  · cases hv
    exact ⟨cur, hgg⟩

set_option maxRecDepth 100000 in
set_option maxHeartbeats 1000000 in
theorem RLeafBytes_typed (A : Option Addr) (len cap : Nat) (bs : List UInt8) (w : World) (hr : Rd w 1 A len (bs.map byteV)) (hlen : len ≤ 8796093022000) :
    Calls Tryd.prog 67 #[.slice A len cap] w fun e w' => ∃ A' c', e = .returned (.slice A' (1 + len) c') ∧ 1 + len ≤ c' ∧ TRd w' 5 1 A' (1 + len) ((0 :: bs).map byteV) ∧ Below w.heap.size w w' := by
  obtain ⟨i0, hi0, hz0, hz1, hz2⟩ := info_parts info5
  have h1 := oneB bs
  have Hr := Lib.hid hr
  clear hr
  go_enter Tryd.func67, Tryd.ntmps67
  go_wp2_with (at_builtin; refine wpList_app rfl (.tmp 5) (.tmp 6) 22 rfl 5 i0 (.int .u8 0) 1 Tryd.underlying22 hi0 hz0 hz1 hz2 rfl w.heap.size (by simp) _ 1 _ rfl (.inr (own_lit w 5 (.int .u8 0))) A len cap (bs.map byteV) rfl (Hr.out.alloc _) h1 (by unfold maxLen; omega) (by omega) ?_; intro v' w2 happ hb1; obtain ⟨A1, c1, rfl, hc1, hrd1⟩ := happ.trd)
  go_ret
  exact ⟨A1, c1, rfl, hc1, hrd1, ((Below.refl _ _).alloc (Nat.le_refl _) _).trans hb1⟩
theorem RLeafBytes_any (A : Option Addr) (len cap : Nat) (bs : List UInt8) (w : World) (hr : Rd w 1 A len (bs.map byteV)) (hlen : len ≤ 8796093022000) :
    Calls Tryd.prog 67 #[.slice A len cap] w fun e w' => ∃ A' c', e = .returned (.slice A' (1 + len) c') ∧ 1 + len ≤ c' ∧ Rd w' 1 A' (1 + len) ((0 :: bs).map byteV) ∧ Below w.heap.size w w' :=
  (RLeafBytes_typed A len cap bs w hr hlen).mono fun _ _ ⟨A', c', h1, h2, h3, h4⟩ => ⟨A', c', h1, h2, h3.1, h4⟩

set_option maxRecDepth 100000 in
set_option maxHeartbeats 1000000 in
theorem RPairBytes_typed (x y : List UInt8) (hx : x.length = 32) (hy : y.length = 32) (w : World) :
    Calls Tryd.prog 68 #[sumV x, sumV y] w fun e w' => ∃ A' c', e = .returned (.slice A' 65 c') ∧ 65 ≤ c' ∧ TRd w' 5 1 A' 65 ((1 :: x ++ y).map byteV) ∧ Below w.heap.size w w' := by
  obtain ⟨i0, hi0, hz0, hz1, hz2⟩ := info_parts info5
  go_enter Tryd.func68, Tryd.ntmps68
  unfold sumV
  go_upto_region 1 with fail
  obtain ⟨w1, hw1⟩ : ∃ w1, w1 = (w.alloc (.cells (x.map byteV).toArray 26)).alloc (.cells (y.map byteV).toArray 26) := ⟨_, rfl⟩
  have hB1 : Below w.heap.size w w1 := by rw [hw1]; exact ((Below.refl _ _).alloc (Nat.le_refl _) _).alloc (by simp) _
  have hs1 : w1.heap.size = w.heap.size + 2 := by rw [hw1]; simp
  have hX1 : Blk w1 w.heap.size 26 (x.map byteV).toArray := by rw [hw1]; exact (Blk.new _ _ _).alloc _
  have hY1 : Blk w1 (w.heap.size + 1) 26 (y.map byteV).toArray := by
    rw [hw1]
    have := Blk.new (w.alloc (.cells (x.map byteV).toArray 26)) 26 (y.map byteV).toArray
    rwa [World.size_alloc] at this
  rw [← hw1]
  have hxr := hX1.rd (by simp [hx])
  have hyr := hY1.rd (by simp [hy])
  rw [List.length_map, hx] at hxr
  rw [List.length_map, hy] at hyr
  have HB1 := Lib.hid hB1
  have Hxr := Lib.hid hxr
  have Hyr := Lib.hid hyr
  have Hs1 := Lib.hid hs1
  clear hw1 hB1 hxr hyr hs1 hX1 hY1
  go_wp2_with (first | (at_builtin; refine wpList_app rfl (.tmp 7) (.tmp 8) 22 rfl 5 i0 (.int .u8 0) 1 Tryd.underlying22 hi0 hz0 hz1 hz2 rfl w1.heap.size (by simp) _ 1 _ rfl (.inr (own_lit w1 5 (.int .u8 1))) (some ⟨w.heap.size, 0, none⟩) 32 32 (x.map byteV) rfl (Hxr.out.alloc _) (oneB _) (by unfold maxLen; omega) (by omega) ?_; intro v' w2 happ hb1; have hb2 : Below w1.heap.size w1 w2 := ((Below.refl _ _).alloc (Nat.le_refl _) _).trans hb1) | (at_builtin; refine wpList_app rfl (.tmp 10) (.tmp 11) 22 rfl 5 i0 (.int .u8 0) 1 Tryd.underlying22 hi0 hz0 hz1 hz2 rfl w1.heap.size hb2.size _ _ _ rfl happ (some ⟨w.heap.size + 1, 0, none⟩) 32 32 (y.map byteV) rfl (Hyr.out.below hb2) (oneB _) (by unfold maxLen; omega) (by omega) ?_; intro v2 w3 happ2 hb3; obtain ⟨A1, c1, rfl, hc1, hrd1⟩ := happ2.trd))
  go_ret
  exact ⟨A1, c1, rfl, by simpa using hc1, ⟨by simpa [byteV] using hrd1.1, fun h => hrd1.2 h⟩, HB1.out.trans ((hb2.trans hb3).mono (by have := Hs1.out; omega))⟩
theorem RPairBytes_any (x y : List UInt8) (hx : x.length = 32) (hy : y.length = 32) (w : World) :
    Calls Tryd.prog 68 #[sumV x, sumV y] w fun e w' => ∃ A' c', e = .returned (.slice A' 65 c') ∧ 65 ≤ c' ∧ Rd w' 1 A' 65 ((1 :: x ++ y).map byteV) ∧ Below w.heap.size w w' :=
  (RPairBytes_typed x y hx hy w).mono fun _ _ ⟨A', c', h1, h2, h3, h4⟩ => ⟨A', c', h1, h2, h3.1, h4⟩

set_option maxRecDepth 100000 in
set_option maxHeartbeats 1000000 in
theorem RLeaf_any (A : Option Addr) (len cap : Nat) (bs : List UInt8) (w : World) (hr : Rd w 1 A len (bs.map byteV)) (hlen : len ≤ 8796093021000) :
    Calls Tryd.prog 59 #[.slice A len cap] w fun e w' => e = .returned (sumV (leaf bs)) ∧ Below w.heap.size w w' := by
  obtain ⟨i32, hi32, hz32, _, _⟩ := info_parts info32
  have hlf := leaf_length bs
  go_enter Tryd.func59, Tryd.ntmps59
  go_upto_region 1 with (refine wpList_alloc0 rfl 26 rfl zero32 (.agg zero32) i32 hi32 hz32 rfl ?_; simp only [Act.put, List.setIfInBounds_toArray, List.set_cons_succ, List.set_cons_zero])
  obtain ⟨w1, hw1⟩ : ∃ w1, w1 = w.alloc (.cells zero32 26) := ⟨_, rfl⟩
  have hB1 : Below w.heap.size w w1 := by rw [hw1]; exact (Below.refl _ _).alloc (Nat.le_refl _) _
  have hs1 : w1.heap.size = w.heap.size + 1 := by rw [hw1]; simp
  have hO1 : Blk w1 w.heap.size 26 zero32 := by rw [hw1]; exact Blk.new _ _ _
  rw [← hw1]
  have hr1 := hr.below hB1
  have HB1 := Lib.hid hB1
  have HO1 := Lib.hid hO1
  have Hr1 := Lib.hid hr1
  have Hs1 := Lib.hid hs1
  clear hw1 hr hB1 hO1 hs1 hr1
  go_wp2_with fail
  refine (RLeafBytes_any A len cap bs w1 Hr1.out (by omega)).mono ?_
  rintro e w2 ⟨A2, c2, rfl, hc2, hrd2, hb2⟩
  have Hrd2 := Lib.hid hrd2
  have Hb2 := Lib.hid hb2
  clear hrd2 hb2
  go_wp2_with fail
  refine (RSum_any A2 (1 + len) c2 (0 :: bs) w2 Hrd2.out (by omega)).mono ?_
  rintro e w3 ⟨rfl, hb3⟩
  have hB3 : Below w1.heap.size w1 w3 := Hb2.out.trans (hb3.mono Hb2.out.size)
  have hO3 : Blk w3 w.heap.size 26 zero32 := HO1.out.below hB3 (by have := Hs1.out; omega)
  have hB0 : Below w.heap.size w w3 := HB1.out.trans (hB3.mono (by have := Hs1.out; omega))
  have HO3 := Lib.hid hO3
  have HB0 := Lib.hid hB0
  clear hO3 hB0 hB3 hb3
  unfold sumV leaf at *
  go_wp2_with (refine wpList_store_row rfl 26 (.tmp 2) (.tmp 5) rfl w.heap.size ((sha (0 :: bs)).map byteV).toArray rfl rfl 26 zero32 HO3.out (size32 _ (sumV_size hlf)) ((zero32_size).trans (sumV_size hlf).symm) (all_oneCell_toArray (oneB _)) ?_)
  refine bodyPost_ret (results_cell_row rfl _ _ w.heap.size 26 ((sha (0 :: bs)).map byteV).toArray (0, 0) _ rfl (setRow_heap _ _ _ _ _ _ HO3.out) und32 rfl (size32 _ (sumV_size hlf))) rfl ⟨rfl, Below.setRow HB0.out (Nat.le_refl _) _⟩

set_option maxRecDepth 100000 in
set_option maxHeartbeats 1000000 in
theorem RPair_any (x y : List UInt8) (hx : x.length = 32) (hy : y.length = 32) (w : World) :
    Calls Tryd.prog 60 #[sumV x, sumV y] w fun e w' => e = .returned (sumV (pair x y)) ∧ Below w.heap.size w w' := by
  obtain ⟨i32, hi32, hz32, _, _⟩ := info_parts info32
  have hlf := pair_length x y
  have hsx := sumV_size hx
  have hsy := sumV_size hy
  go_enter Tryd.func60, Tryd.ntmps60
  unfold sumV
  go_upto_region 1 with (refine wpList_alloc0 rfl 26 rfl zero32 (.agg zero32) i32 hi32 hz32 rfl ?_; simp only [Act.put, List.setIfInBounds_toArray, List.set_cons_succ, List.set_cons_zero])
  obtain ⟨w1, hw1⟩ : ∃ w1, w1 = ((w.alloc (.cells (x.map byteV).toArray 26)).alloc (.cells (y.map byteV).toArray 26)).alloc (.cells zero32 26) := ⟨_, rfl⟩
  have hB1 : Below w.heap.size w w1 := by rw [hw1]; exact (((Below.refl _ _).alloc (Nat.le_refl _) _).alloc (by simp) _).alloc (by simp; omega) _
  have hs1 : w1.heap.size = w.heap.size + 3 := by rw [hw1]; simp
  have hX1 : Blk w1 w.heap.size 26 (x.map byteV).toArray := by rw [hw1]; exact ((Blk.new _ _ _).alloc _).alloc _
  have hY1 : Blk w1 (w.heap.size + 1) 26 (y.map byteV).toArray := by
    rw [hw1]
    have := (Blk.new (w.alloc (.cells (x.map byteV).toArray 26)) 26 (y.map byteV).toArray).alloc (.cells zero32 26)
    rwa [World.size_alloc] at this
  have hO1 : Blk w1 (w.heap.size + 1 + 1) 26 zero32 := by
    rw [hw1]
    have := Blk.new ((w.alloc (.cells (x.map byteV).toArray 26)).alloc (.cells (y.map byteV).toArray 26)) 26 zero32
    rwa [World.size_alloc, World.size_alloc] at this
  rw [← hw1]
  have HB1 := Lib.hid hB1
  have HO1 := Lib.hid hO1
  have HX1 := Lib.hid hX1
  have HY1 := Lib.hid hY1
  have Hs1 := Lib.hid hs1
  clear hw1 hB1 hO1 hs1 hX1 hY1
  go_wp2_with (first | (refine wpList_load_row rfl 26 (.tmp 2) rfl w.heap.size rfl 26 (x.map byteV).toArray (0, 0) _ HX1.out und32 rfl (size32 _ hsx) ?_) | (refine wpList_load_row rfl 26 (.tmp 3) rfl (w.heap.size + 1) rfl 26 (y.map byteV).toArray (0, 0) _ HY1.out und32 rfl (size32 _ hsy) ?_))
  refine (RPairBytes_any x y hx hy w1).mono ?_
  rintro e w2 ⟨A2, c2, rfl, hc2, hrd2, hb2⟩
  have Hrd2 := Lib.hid hrd2
  have Hb2 := Lib.hid hb2
  clear hrd2 hb2
  go_wp2_with fail
  refine (RSum_any A2 65 c2 (1 :: x ++ y) w2 Hrd2.out (by omega)).mono ?_
  rintro e w3 ⟨rfl, hb3⟩
  have hB3 : Below w1.heap.size w1 w3 := Hb2.out.trans (hb3.mono Hb2.out.size)
  have hO3 : Blk w3 (w.heap.size + 1 + 1) 26 zero32 := HO1.out.below hB3 (by have := Hs1.out; omega)
  have hB0 : Below w.heap.size w w3 := HB1.out.trans (hB3.mono (by have := Hs1.out; omega))
  have HO3 := Lib.hid hO3
  have HB0 := Lib.hid hB0
  clear hO3 hB0 hB3 hb3
  unfold sumV pair at *
  go_wp2_with (refine wpList_store_row rfl 26 (.tmp 4) (.tmp 8) rfl (w.heap.size + 1 + 1) ((sha (1 :: x ++ y)).map byteV).toArray rfl rfl 26 zero32 HO3.out (size32 _ (sumV_size hlf)) ((zero32_size).trans (sumV_size hlf).symm) (all_oneCell_toArray (oneB _)) ?_)
  refine bodyPost_ret (results_cell_row rfl _ _ (w.heap.size + 1 + 1) 26 ((sha (1 :: x ++ y)).map byteV).toArray (0, 0) _ rfl (setRow_heap _ _ _ _ _ _ HO3.out) und32 rfl (size32 _ (sumV_size hlf))) rfl ⟨rfl, Below.setRow HB0.out (by omega) _⟩
end

section
open Go.RowKit Go.Sort

theorem own_empty (w : World) (e : TypeId) (sz : Nat) : (w.alloc (.cells #[] e)).ownsRow w.heap.size e sz (.slice (some ⟨w.heap.size, 0, none⟩) 0 0) 0 [] :=
  ⟨by simp, .inr ⟨_, 0, #[], rfl, Nat.le_refl _, heap_alloc_new _ _, Nat.le_refl _, by unfold maxLen; omega, by simp, by simp⟩⟩
set_option maxRecDepth 100000 in
set_option maxHeartbeats 1000000 in
theorem RLeaves_any (A : Option Addr) (len cap : Nat) (cs : List (List UInt8)) (w : World) (hr : Lst w A len cs) (hlen : len ≤ 1000000) (hcs : ∀ c ∈ cs, c.length ≤ 8796093021000) :
    Calls Tryd.prog 56 #[.slice A len cap] w fun e w' => ∃ A' c', e = .returned (.slice A' len c') ∧ len ≤ c' ∧ Rd w' 32 A' len ((cs.map leafS).flatMap sumC) ∧ Below w.heap.size w w' ∧ ∀ b off, A' = some ⟨b, off, none⟩ → w.heap.size ≤ b := by
  obtain ⟨i0, hi0, hz0, hz1, hz2⟩ := info_parts info32
  have hle := hr.le
  have hl := hr.len
  subst hl
  have hown := own_empty w 26 32
  go_enter Tryd.func56, Tryd.ntmps56
  go_wp2
  go_loopw [3, 4] (fun v i wr => ∃ k : Nat, k ≤ cs.length ∧ i = .int .i64 k ∧ wr.ownsRow w.heap.size 26 32 v k (((cs.take k).map leafS).flatMap sumC) ∧ Below w.heap.size w wr) (fun _ i _ => cs.length - (intOf i).toNat)
  case atStart => exact ⟨0, by omega, rfl, by simpa using hown, (Below.refl _ _).alloc (Nat.le_refl _) _⟩
  case round =>
    obtain ⟨k, hk, rfl, hrow, hB⟩ := hrel
    have hsz := hB.size
    by_cases hlt : k < cs.length
    · obtain ⟨b, off, v, c, rfl, hx, c1, hrd, hvc⟩ := (hr.below hB).at_ hlt
      have hcl := hcs c (List.mem_of_getElem? hx)
      have hvn := hrd.len1
      have hleaf := RLeaf_any v.a v.n v.c c wr hrd (by omega)
      have htk : cs.take (k + 1) = cs.take k ++ [c] := by rw [List.take_add_one, hx]; rfl
      have hlf := leaf_length c
      have Ht := Lib.hid htk
      have Hrow := Lib.hid hrow
      have HB := Lib.hid hB
      have Hleaf := Lib.hid hleaf
      clear htk hx hr hrow hB hleaf hrd hcs hown
      go_wp2_with fail
      refine Hleaf.out.mono ?_
      rintro e w1 ⟨rfl, hb1⟩
      have hrow1 : ∀ o, (w1.alloc o).ownsRow w.heap.size 26 32 u3 k (((cs.take k).map leafS).flatMap sumC) := fun o => (Hrow.out.kept (⟨hb1.os, hb1.tape, hb1.output, hb1.size, fun k hk _ => hb1.block k hk⟩ : wr.grownBy w1 none) (by cases u3.ownBlock <;> simp)).alloc o
      have Hrow1 := Lib.hid hrow1
      have hs1 := hb1.size
      have HB1 := Lib.hid (HB.out.trans (hb1.mono hsz))
      clear hrow1 hb1 Hrow HB
      unfold sumV
      have hlc := sumV_size hlf
      have hll : ((leaf c).map byteV).length = 1 * 32 := by simp [hlf]
      generalize hhs : leaf c = hs at *
      have Hhs := Lib.hid hhs
      clear hhs
      go_wp2_with (first | (refine wpList_build1 rfl 35 26 (.tmp 17) rfl _ i0 _ 32 Tryd.underlying35 hi0 hz0 hz1 (by omega) (by omega) rfl hlc ?_) | (at_builtin; refine wpList_append_own _ rfl (.tmp 12) (.tmp 18) 35 rfl w.heap.size 26 i0 (.agg zero32) 32 32 Tryd.underlying35 hi0 hz0 hz1 hz2 rfl (by decide) _ k _ rfl (Hrow1.out _) ⟨w1.heap.size, 0, none⟩ 1 1 (hs.map byteV) rfl hll (cells_new _ _ _) (oneB _) (by unfold maxLen; omega) (by omega) (by simp; omega) ?_; intro v' w2 hown' hgrow _))
      have hB3 : Below w.heap.size w w2 := (HB1.out.alloc (by omega) _).grown hgrow (by simp; omega) (fun k' e' => ((Hrow1.out (.cells (hs.map byteV).toArray 26)).lt k' e').1)
      exact ⟨⟨k + 1, by omega, by go_num, by rw [Ht.out, List.map_append, List.flatMap_append, List.map_cons, List.map_nil, show [leafS c].flatMap sumC = hs.map byteV from by rw [← Hhs.out]; simp only [List.flatMap_cons, List.flatMap_nil, List.append_nil]; rfl]; exact hown', hB3⟩, by simp [intOf]; omega⟩
    · go_wp2
      go_ret
      obtain rfl : k = cs.length := by omega
      obtain ⟨A2, c2, rfl⟩ := ownsRow_slice hrow
      have hcc := ownsRow_cap hrow
      rw [List.take_length] at hrow
      exact ⟨A2, c2, rfl, hcc, Rd.of_own hrow, hB, fun b off e => (hrow.lt b (by rw [e]; rfl)).1⟩
end

section
open Go.RowKit Go.Sort

theorem upL_even (xs : List Sum32) (k : Nat) (h : xs.length = 2 * k) : upL xs = (List.range k).map (upAt xs) := by
  unfold upL
  rw [show (xs.length + 1) / 2 = k from by omega]
theorem upL_odd (xs : List Sum32) (k : Nat) (h : xs.length = 2 * k + 1) : upL xs = (List.range k).map (upAt xs) ++ [xs.getD (2 * k) z32] := by
  unfold upL
  rw [show (xs.length + 1) / 2 = k + 1 from by omega, List.range_succ, List.map_append, List.map_cons, List.map_nil]
  unfold upAt
  rw [if_neg (show ¬ 2 * k + 1 < xs.length by omega)]

set_option maxRecDepth 100000 in
set_option maxHeartbeats 2000000 in
theorem RUp_any (b off len cap : Nat) (xs : List Sum32) (w : World) (hr : Rd w 32 (some ⟨b, off, none⟩) len (xs.flatMap sumC)) (h1 : 0 < len) (hlen : len ≤ 1000000) :
    Calls Tryd.prog 57 #[.slice (some ⟨b, off, none⟩) len cap] w fun e w' => ∃ A' c', e = .returned (.slice A' ((len + 1) / 2) c') ∧ (len + 1) / 2 ≤ c' ∧ Rd w' 32 A' ((len + 1) / 2) ((upL xs).flatMap sumC) ∧ Below w.heap.size w w' ∧ ∀ b off, A' = some ⟨b, off, none⟩ → w.heap.size ≤ b := by
  obtain ⟨i0, hi0, hz0, hz1, hz2⟩ := info_parts info32
  have hxl := hr.lenf sumC_len (by omega)
  have hown := own_empty w 26 32
  have Hr := Lib.hid hr
  clear hr
  go_enter Tryd.func57, Tryd.ntmps57
  go_wp2_with fail
  go_loopw [3, 4] (fun v i wr => ∃ k m : Nat, m = 2 * k ∧ m ≤ len ∧ i = .int .i64 (m : Int) ∧ wr.ownsRow w.heap.size 26 32 v k (((List.range k).map (upAt xs)).flatMap sumC) ∧ Below w.heap.size w wr) (fun _ i _ => len - (intOf i).toNat)
  case atStart => exact ⟨0, 0, rfl, by omega, rfl, by simpa using hown, (Below.refl _ _).alloc (Nat.le_refl _) _⟩
  case round =>
    obtain ⟨k, m, hm, hml, rfl, hrow, hB⟩ := hrel
    have hsz := hB.size
    have hrW := Hr.out.below hB
    by_cases hlt : m + 1 < len
    · obtain ⟨M, hM⟩ : ∃ M, M = m + 1 := ⟨_, rfl⟩
      have hMl : M < len := by omega
      have hMi : (m : Int) + 1 = (M : Int) := by omega
      have hua : upAt xs k = pairS (xs.getD m z32) (xs.getD M z32) := by unfold upAt; rw [if_pos (by omega), hM, hm]
      have hx0 := hrW.range32 (k := m) (by omega)
      have hx1 := hrW.range32 (k := M) (by omega)
      generalize xs.getD m z32 = x0 at *
      generalize xs.getD M z32 = x1 at *
      have hp0 := x0.2
      have hp1 := x1.2
      have hpl := pair_length x0.1 x1.1
      have hx0' : ∀ w', Ext wr w' → w'.rangeAt b (off + m * 32) (sumC x0) := fun w' hw' j v hv => ((ext_below hw').cell (World.block_lt_of_cell? wr _ (hx0 j v hv))).trans (hx0 j v hv)
      have hx1' : ∀ w', Ext wr w' → w'.rangeAt b (off + M * 32) (sumC x1) := fun w' hw' j v hv => ((ext_below hw').cell (World.block_lt_of_cell? wr _ (hx1 j v hv))).trans (hx1 j v hv)
      have Hx0 := Lib.hid hx0'
      have Hx1 := Lib.hid hx1'
      have Hrow := Lib.hid hrow
      have HB := Lib.hid hB
      have Hm := Lib.hid hm
      have HM := Lib.hid hM
      have Hua := Lib.hid hua
      clear hx0 hx1 hx0' hx1' hrow hB hm hM hua hrW hown
      go_wp2_with fail
      refine wp_region_reads_tail 12 [0, 1, 2, 3, 4, 5, 6, 7, 8, 9] 2 (by kernel_rfl) (List.take_append_drop _ _) rfl (by kernel_rfl) (by kernel_rfl) (by kernel_rfl) (by decide) (by kernel_rfl) (by kernel_rfl) (fun _ _ d _ _ h => by cases d <;> exact h) (by kernel_rfl) (by kernel_rfl) rfl ?_
      simp only [List.take_succ_cons, List.take_zero, List.drop_succ_cons, List.drop_zero, pickOps, List.getElem?_cons_zero, List.getElem?_cons_succ]
      repeat (first | go_big_quiet_step (fail) | rw [hMi] | (refine wpQuiet_load_mid rfl 26 _ rfl b _ rfl (sumC x0) _ Hx0.out und32 rfl (by rw [sumC_len]; kernel_rfl) ?_; simp only [Act.put, List.setIfInBounds_toArray, List.set_cons_succ, List.set_cons_zero]) | (refine wpQuiet_load_mid rfl 26 _ rfl b _ rfl (sumC x1) _ Hx1.out und32 rfl (by rw [sumC_len]; kernel_rfl) ?_; simp only [Act.put, List.setIfInBounds_toArray, List.set_cons_succ, List.set_cons_zero]))
      refine wpQuiet_nil ?_
      refine wpAnyH_one (i := 10) (by kernel_rfl) rfl ?_
      intro K hK
      go_simp
      have hpair := RPair_any x0.1 x1.1 hp0 hp1 wr.drew
      have Hpair := Lib.hid hpair
      clear hpair
      unfold sumC
      refine Hpair.out.mono ?_
      rintro e W1 ⟨rfl, hb1⟩
      have hB1 : Below wr.heap.size wr W1 := (Below.refl _ wr).drew.trans hb1
      refine hK _ _ (ext_of hB1) ?_
      clear hK K
      refine wpAnyH_one (i := 11) (by kernel_rfl) rfl ?_
      intro K hK
      refine step_build1 rfl 35 26 (.tmp 23) rfl _ i0 _ 32 Tryd.underlying35 hi0 hz0 hz1 (by omega) (by omega) rfl (sumV_size hpl) ?_
      refine hK _ _ (ext_of (hB1.alloc hB1.size _)) ?_
      clear hK K
      refine wpAnyH_done (by kernel_rfl) ?_ _
      have hrow1 : ∀ o, (W1.alloc o).ownsRow w.heap.size 26 32 u3 k (((List.range k).map (upAt xs)).flatMap sumC) := fun o => (ownsRow_below Hrow.out hB1).alloc o
      have Hrow1 := Lib.hid hrow1
      have HB1 := Lib.hid (HB.out.trans (hB1.mono hsz))
      have hs1 := HB1.out.size
      clear hrow1 Hrow HB hb1
      simp only [Exit.then]
      refine wpList_append_own _ rfl (.tmp 13) (.tmp 24) 35 rfl w.heap.size 26 i0 (.agg zero32) 32 32 Tryd.underlying35 hi0 hz0 hz1 hz2 rfl (by decide) u3 k _ rfl (Hrow1.out _) ⟨W1.heap.size, 0, none⟩ 1 1 ((pair x0.1 x1.1).map byteV) rfl (by rw [List.length_map, hpl]) (cells_new _ _ _) (oneB _) (by have := Hm.out; unfold maxLen; omega) (by have := Hm.out; omega) (by simp; omega) ?_
      intro v' w2 hown' hgrow _
      have hB3 : Below w.heap.size w w2 := (HB1.out.alloc (by omega) _).grown hgrow (by simp; omega) (fun k' e' => ((Hrow1.out (.cells ((pair x0.1 x1.1).map byteV).toArray 26)).lt k' e').1)
      have Hown := Lib.hid hown'
      have HB3 := Lib.hid hB3
      clear hown' hB3 hgrow hB1
      simp only [Act.put, List.setIfInBounds_toArray, List.set_cons_succ, List.set_cons_zero]
      go_wp2_with fail
      refine ⟨⟨k + 1, m + 2, by have := Hm.out; omega, by omega, by go_num, ?_, HB3.out⟩, by simp [intOf]; omega⟩
      rw [List.range_succ, List.map_append, List.flatMap_append, List.map_cons, List.map_nil, List.flatMap_cons, List.flatMap_nil, List.append_nil, Hua.out]
      exact Hown.out
    · by_cases hpar : len = m
      · have hu := upL_even xs k (by omega)
        rw [← hu] at hrow
        have hmod : (len : Int) % 2 = 0 := by omega
        obtain ⟨Ao, co, rfl⟩ := ownsRow_slice hrow
        have hcc := ownsRow_cap hrow
        rw [show k = (len + 1) / 2 from by omega] at hrow hcc ⊢
        have Hrow := Lib.hid hrow
        have HB := Lib.hid hB
        clear hrow hB hrW hu hm hpar hown
        go_wp2_with fail
        go_ret
        exact ⟨Ao, co, rfl, hcc, Rd.of_own Hrow.out, HB.out, fun b off e => (Hrow.out.lt b (by rw [e]; rfl)).1⟩
      · obtain rfl : len = m + 1 := by omega
        have hu := upL_odd xs k (by omega)
        rw [← hm] at hu
        have hx0 := hrW.range32 (k := m) (by omega)
        generalize xs.getD m z32 = x0 at *
        have hp0 := x0.2
        have hmod : ((m : Int) + 1) % 2 = 1 := by omega
        have Hrow := Lib.hid hrow
        have HB := Lib.hid hB
        have Hm := Lib.hid hm
        have Hu := Lib.hid hu
        have Hx0 := Lib.hid hx0
        clear hrow hB hm hu hx0 hown hrW hpar
        go_wp2_with (first | (refine wpList_load_mid rfl 26 (.tmp 35) rfl b _ rfl (sumC x0) _ Hx0.out und32 rfl (by rw [sumC_len]; kernel_rfl) ?_) | (refine wpList_build1 rfl 35 26 (.tmp 36) rfl _ i0 _ 32 Tryd.underlying35 hi0 hz0 hz1 (by omega) (by omega) rfl (sumV_size hp0) ?_) | (at_builtin; refine wpList_append_own _ rfl (.tmp 30) (.tmp 37) 35 rfl w.heap.size 26 i0 (.agg zero32) 32 32 Tryd.underlying35 hi0 hz0 hz1 hz2 rfl (by decide) _ k _ rfl (Hrow.out.alloc _) ⟨wr.heap.size, 0, none⟩ 1 1 (x0.1.map byteV) rfl (by rw [List.length_map, hp0]) (cells_new _ _ _) (oneB _) (by have := Hm.out; unfold maxLen; omega) (by have := Hm.out; omega) (by simp; omega) ?_; intro v' w3 hown' hgrow _))
        have hB3 : Below w.heap.size w w3 := (HB.out.alloc (by omega) _).grown hgrow (by simp; omega) (fun k' e' => ((Hrow.out.alloc (.cells (x0.1.map byteV).toArray 26)).lt k' e').1)
        obtain ⟨Ao, co, rfl⟩ := ownsRow_slice hown'
        have hcc := ownsRow_cap hown'
        rw [show (m + 1 + 1) / 2 = k + 1 from by have := Hm.out; omega]
        go_ret
        refine ⟨Ao, co, rfl, hcc, ?_, hB3, fun b off e => (hown'.lt b (by rw [e]; rfl)).1⟩
        rw [Hu.out, List.flatMap_append, List.flatMap_cons, List.flatMap_nil, List.append_nil]
        exact Rd.of_own hown'
end

section
open Go.RowKit Go.Sort

set_option maxRecDepth 100000 in
set_option maxHeartbeats 1000000 in
theorem RRoot_any (A : Option Addr) (len cap : Nat) (cs : List (List UInt8)) (w : World) (hr : Lst w A len cs) (hlen : len ≤ 1000000) (hcs : ∀ c ∈ cs, c.length ≤ 8796093021000) :
    Calls Tryd.prog 37 #[.slice A len cap] w fun e w' => e = .returned (sumV (root cs).1) ∧ Below w.heap.size w w' := by
  have hl := hr.len
  obtain ⟨i32, hi32, hz32, _, _⟩ := info_parts info32
  go_enter Tryd.func37, Tryd.ntmps37
  go_upto_region 1 with (refine wpList_alloc0 rfl 26 rfl zero32 (.agg zero32) i32 hi32 hz32 rfl ?_; simp only [Act.put, List.setIfInBounds_toArray, List.set_cons_succ, List.set_cons_zero])
  obtain ⟨w1, hw1⟩ : ∃ w1, w1 = w.alloc (.cells zero32 26) := ⟨_, rfl⟩
  have hB1 : Below w.heap.size w w1 := by rw [hw1]; exact (Below.refl _ _).alloc (Nat.le_refl _) _
  have hs1 : w1.heap.size = w.heap.size + 1 := by rw [hw1]; simp
  have hO1 : Blk w1 w.heap.size 26 zero32 := by rw [hw1]; exact Blk.new _ _ _
  rw [← hw1]
  have hr1 := hr.below hB1
  have HB1 := Lib.hid hB1
  have HO1 := Lib.hid hO1
  have Hs1 := Lib.hid hs1
  clear hw1 hr hB1 hO1 hs1
  cases cs with
  | nil =>
    obtain rfl : len = 0 := by simpa using hl.symm
    have hsum := RSum_any none 0 0 [] w1 (Rd.nil _ _ _) (by omega)
    have hlf := sha_length []
    have Hsum := Lib.hid hsum
    clear hsum
    go_wp2_with fail
    refine Hsum.out.mono ?_
    rintro e w2 ⟨rfl, hb2⟩
    have hO2 : Blk w2 w.heap.size 26 zero32 := HO1.out.below hb2 (by have := Hs1.out; omega)
    have hB2 : Below w.heap.size w w2 := HB1.out.trans (hb2.mono (by have := Hs1.out; omega))
    have HO2 := Lib.hid hO2
    have HB2 := Lib.hid hB2
    clear hO2 hB2 hb2
    go_wp2_with (refine wpList_store_row rfl 26 (.tmp 2) (.tmp 7) rfl _ _ rfl rfl 26 _ HO2.out (size32 _ (sumV_size hlf)) ((zero32_size).trans (sumV_size hlf).symm) (all_oneCell_toArray (oneB _)) ?_)
    refine bodyPost_ret (results_cell_row rfl _ _ w.heap.size 26 _ (0, 0) _ rfl (setRow_heap _ _ _ _ _ _ HO2.out) und32 rfl (size32 _ (sumV_size hlf))) rfl ⟨rfl, Below.setRow HB2.out (Nat.le_refl _) _⟩
  | cons c cs =>
    have hlp : 0 < len := by simp at hl; omega
    have hlv := RLeaves_any A len cap (c :: cs) w1 hr1 hlen hcs
    have hroot : root (c :: cs) = rootL ((c :: cs).map leafS) := rfl
    have hll : ((c :: cs).map leafS).length = len := by rw [List.length_map, hl]
    generalize (c :: cs).map leafS = ls at *
    have Hroot := Lib.hid hroot
    have Hlv := Lib.hid hlv
    clear hlv hr1 hcs hl hroot
    go_wp2_with fail
    refine Hlv.out.mono ?_
    rintro e w2 ⟨A2, c2, rfl, hc2, hrd2, hb2, _⟩
    have hO2 : Blk w2 w.heap.size 26 zero32 := HO1.out.below hb2 (by have := Hs1.out; omega)
    have hB2 : Below w.heap.size w w2 := HB1.out.trans (hb2.mono (by have := Hs1.out; omega))
    have hs2 : w.heap.size < w2.heap.size := hO2.lt
    have HO2 := Lib.hid hO2
    have HB2 := Lib.hid hB2
    clear hO2 hB2 hb2
    go_wp2_with fail
    go_loopw [3] (fun v wr => ∃ (n c' : Nat) (A' : Option Addr) (ys : List Sum32), v = .slice A' n c' ∧ n ≤ c' ∧ 0 < n ∧ n ≤ 1000000 ∧ Rd wr 32 A' n (ys.flatMap sumC) ∧ rootL ys = rootL ls ∧ Below w2.heap.size w2 wr) (fun v _ => slLen v)
    case atStart => exact ⟨len, c2, A2, ls, rfl, hc2, hlp, hlen, hrd2, rfl, Below.refl _ _⟩
    case round =>
      obtain ⟨n, c', A', ys, rfl, hnc, hn0, hn1, hrd, hro, hB⟩ := hrel
      clear hrd2
      have hyl := hrd.lenf sumC_len (by omega)
      obtain ⟨b, off, rfl, _⟩ := hrd.2.2 hn0
      by_cases h2 : 1 < n
      · have hup := RUp_any b off n c' ys wr hrd hn0 hn1
        have hru := rootL_up ys (by omega)
        have Hup := Lib.hid hup
        have Hru := Lib.hid (hru.symm.trans hro)
        have HB := Lib.hid hB
        have hsz := hB.size
        clear hup hru hro hB hrd
        go_wp2_with fail
        refine Hup.out.mono ?_
        rintro e w3 ⟨A3, c3, rfl, hc3, hrd3, hb3, _⟩
        have Hr3 := Lib.hid hrd3
        clear hrd3
        go_wp2_with fail
        exact ⟨⟨(n + 1) / 2, c3, A3, upL ys, rfl, hc3, by omega, by omega, Hr3.out, Hru.out, HB.out.trans (hb3.mono hsz)⟩, by simp only [slLen]; omega⟩
      · obtain rfl : n = 1 := by omega
        have hx := hrd.range32 (k := 0) (by omega)
        rw [Nat.zero_mul, Nat.add_zero] at hx
        rw [rootL_one ys (by omega)] at hro
        rw [hro] at hx
        have hlf : (rootL ls).1.length = 32 := (rootL ls).2
        have hO3 : Blk wr w.heap.size 26 zero32 := HO2.out.below hB hs2
        have hB3 : Below w.heap.size w wr := HB2.out.trans (hB.mono (by omega))
        have HO3 := Lib.hid hO3
        have HB3 := Lib.hid hB3
        have Hx := Lib.hid hx
        have hroot := Hroot.out
        generalize rootL ls = rt at *
        have Hro2 := Lib.hid hroot
        clear hroot
        clear hO3 hB3 hB hrd hx
        go_wp2_with (first | (refine wpList_load_mid rfl 26 (.tmp 16) rfl b off rfl (sumC rt) _ Hx.out und32 rfl (by rw [sumC_len]; kernel_rfl) ?_) | (refine wpList_store_row rfl 26 (.tmp 2) (.tmp 17) rfl _ _ rfl rfl 26 _ HO3.out (size32 _ (sumV_size hlf)) ((zero32_size).trans (sumV_size hlf).symm) (all_oneCell_toArray (oneB _)) ?_))
        refine bodyPost_ret (results_cell_row rfl _ _ w.heap.size 26 _ (0, 0) _ rfl (setRow_heap _ _ _ _ _ _ HO3.out) und32 rfl (size32 _ (sumV_size hlf))) rfl ⟨by rw [Hro2.out]; rfl, Below.setRow HB3.out (Nat.le_refl _) _⟩
end

end Go.Proofs.YtfdhiilhjfbehaaDoor
