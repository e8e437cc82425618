/- The law HashBytes. -/
import Derived.Test.YtgblkaoioeceiaaDoorSanity
namespace Go.Proofs.YtgblkaoioeceiaaDoor
open Go.RowKit Go.Sort

theorem leaf_eq (b : List UInt8) : leaf b = sha (0 :: b) := rfl
theorem pair_eq (x y : List UInt8) : pair x y = sha (1 :: x ++ y) := rfl

theorem Rd.head1 {α : Type} {f : α → Value} {w : World} {n m : Nat} {A : Option Addr} {xs : List α} (h : Rd w 1 A n (xs.map f)) (hm : m ≤ n) : Rd w 1 A m ((xs.take m).map f) := by
  have hl := h.len1
  refine ⟨by simp; omega, by have := h.le; omega, fun hp => ?_⟩
  obtain ⟨b, off, e, hc⟩ := h.2.2 (by omega)
  refine ⟨b, off, e, fun j u hu => hc j u ?_⟩
  rw [List.getElem?_map] at hu ⊢
  rw [List.getElem?_take] at hu
  split at hu
  · exact hu
  · simp at hu

set_option maxRecDepth 100000 in
set_option maxHeartbeats 1000000 in
theorem Bytes_any (A : Option Addr) (len cap : Nat) (bs : List UInt8) (x y : Sum32) (w : World) (hg : Globs w) (hr : Rd w 1 A len (bs.map byteV)) (hcap : len ≤ cap) :
    Calls Tryd.prog 9 #[.slice A len cap, sumV x.1, sumV y.1] w fun e w' => e = .returned (.bool true) ∧ Below w.heap.size w w' := by
  obtain ⟨i0, hi0, hz0, hz1, hz2⟩ := info_parts info5
  have hle := hr.le
  have hx : x.1.length = 32 := x.2
  have hy : y.1.length = 32 := y.2
  go_enter Tryd.func9, Tryd.ntmps9
  unfold sumV
  go_upto_region 1 with fail
  obtain ⟨w1, hw1⟩ : ∃ w1, w1 = (w.alloc (.cells (x.1.map byteV).toArray 32)).alloc (.cells (y.1.map byteV).toArray 32) := ⟨_, rfl⟩
  have hB1 : Below w.heap.size w w1 := by rw [hw1]; exact ((Below.refl _ _).alloc (Nat.le_refl _) _).alloc (by simp) _
  have hX1 : Blk w1 w.heap.size 32 (x.1.map byteV).toArray := by rw [hw1]; exact (Blk.new _ _ _).alloc _
  have hY1 : Blk w1 (w.heap.size + 1) 32 (y.1.map byteV).toArray := by
    rw [hw1]
    have := Blk.new (w.alloc (.cells (x.1.map byteV).toArray 32)) 32 (y.1.map byteV).toArray
    rwa [World.size_alloc] at this
  rw [← hw1]
  have hX1r := hX1.rd (by simp [hx])
  have hY1r := hY1.rd (by simp [hy])
  rw [List.length_map, hx] at hX1r
  rw [List.length_map, hy] at hY1r
  have hr1 := hr.below hB1
  have hg1 := hg.below hB1
  have H1 := Lib.hid (Sanity_any w1 hg1)
  have Hg1 := Lib.hid hg1
  have Hr1 := Lib.hid hr1
  have HX1 := Lib.hid hX1
  have HY1 := Lib.hid hY1
  have HB1 := Lib.hid hB1
  clear hw1 hB1 hX1 hY1 hr1 hg1 hr hg
  go_wp2_with fail
  refine H1.out.mono ?_
  rintro e w2 ⟨rfl, hb2⟩
  have Hb2 := Lib.hid hb2
  clear hb2
  go_upto_region 2 with fail
  obtain ⟨m, hm, hml, hm100⟩ : ∃ m : Nat, (m : Int) = (if (100 : Int) < (len : Int) then 100 else (len : Int)) ∧ m ≤ len ∧ m ≤ 100 := by
    by_cases h : len ≤ 100
    · exact ⟨len, by rw [if_neg (by omega)], Nat.le_refl _, h⟩
    · exact ⟨100, by rw [if_pos (by omega)]; rfl, by omega, Nat.le_refl _⟩
  go_upto_region 3 with fail
  rw [← hm, Int.toNat_natCast]
  have hr2 := (Hr1.out.below Hb2.out).head1 hml
  have hms : (bs.take m).length = m := hr2.len1
  generalize bs.take m = b2 at *
  have Hr2 := Lib.hid hr2
  clear hr2 hm
  have hxr := hX1r
  have HXr := Lib.hid hX1r
  have HYr := Lib.hid hY1r
  clear hX1r hY1r hxr
  go_wp2_with (first | (at_builtin; refine wpList_app rfl (.tmp 16) (.tmp 17) 22 rfl 5 i0 (.int .u8 0) 1 Tryd.underlying22 hi0 hz0 hz1 hz2 rfl w2.heap.size (by simp) _ 1 _ rfl (.inr (own_lit w2 5 (.int .u8 0))) A m cap (b2.map byteV) rfl (Hr2.out.alloc _) (oneB _) (by unfold maxLen; omega) (by omega) ?_; intro v8 w3 happ3 hb3; obtain ⟨A8, c8, rfl, hc8, hrd8⟩ := happ3.rd; have Hr8 := Lib.hid hrd8; have Hb3 := Lib.hid (((Below.refl _ w2).alloc (Nat.le_refl _) (.cells #[.int .u8 0] 5)).trans hb3); clear hrd8 happ3 hb3) | (at_builtin; refine wpList_app rfl (.tmp 19) (.tmp 20) 22 rfl 5 i0 (.int .u8 0) 1 Tryd.underlying22 hi0 hz0 hz1 hz2 rfl w3.heap.size (by simp) _ 1 _ rfl (.inr (own_lit w3 5 (.int .u8 1))) (some ⟨w.heap.size, 0, none⟩) 32 32 (x.1.map byteV) rfl (((HXr.out.below Hb2.out).below Hb3.out).alloc _) (oneB _) (by unfold maxLen; omega) (by omega) ?_; intro v9 w4 happ4 hb4; have Happ4 := Lib.hid happ4; have Hb4 := Lib.hid (((Below.refl _ w3).alloc (Nat.le_refl _) (.cells #[.int .u8 1] 5)).trans hb4); clear happ4 hb4) | (at_builtin; refine wpList_app rfl (.tmp 22) (.tmp 23) 22 rfl 5 i0 (.int .u8 0) 1 Tryd.underlying22 hi0 hz0 hz1 hz2 rfl w3.heap.size Hb4.out.size _ _ _ rfl Happ4.out (some ⟨w.heap.size + 1, 0, none⟩) 32 32 (y.1.map byteV) rfl (((HYr.out.below Hb2.out).below Hb3.out).below Hb4.out) (oneB _) (by unfold maxLen; omega) (by omega) ?_; intro v10 w5 happ5 hb5; obtain ⟨A9, c9, rfl, hc9, hrd9⟩ := happ5.rd; have Hr9 := Lib.hid hrd9; have Hb5 := Lib.hid (Hb4.out.trans hb5); clear hrd9 happ5 hb5))
  have Hg5 := Lib.hid (((Hg1.out.below Hb2.out).below Hb3.out).below Hb5.out)
  have Hr8' := Lib.hid (Hr8.out.below Hb5.out)
  have Hr2' := Lib.hid ((Hr2.out.below Hb3.out).below Hb5.out)
  have HX5 := Lib.hid ((((HX1.out.below Hb2.out HX1.out.lt).below Hb3.out (by have := HX1.out.lt; have := Hb2.out.size; omega)).below Hb5.out (by have := HX1.out.lt; have := Hb2.out.size; have := Hb3.out.size; omega)))
  have HY5 := Lib.hid ((((HY1.out.below Hb2.out HY1.out.lt).below Hb3.out (by have := HY1.out.lt; have := Hb2.out.size; omega)).below Hb5.out (by have := HY1.out.lt; have := Hb2.out.size; have := Hb3.out.size; omega)))
  have HB5 := Lib.hid (HB1.out.trans ((Hb2.out.trans ((Hb3.out.trans (Hb5.out.mono Hb3.out.size)).mono Hb2.out.size)).mono HB1.out.size))
  have hlx := HX5.out.lt
  have hly := HY5.out.lt
  have hpb : ([Value.int .u8 1] ++ x.1.map byteV ++ y.1.map byteV) = (1 :: x.1 ++ y.1).map byteV := by simp [byteV]
  have h0b : ([Value.int .u8 0] ++ b2.map byteV) = (0 :: b2).map byteV := by simp [byteV]
  have hr9' := Hr9.out
  rw [hpb] at hr9'
  have hr8' := Hr8'.out
  rw [h0b] at hr8'
  have c1 : ∀ W, Below w5.heap.size w5 W → Calls Tryd.prog 16 #[.slice A m cap] W fun e w' => e = .returned (.agg (sumC (leafS b2)).toArray) ∧ Below W.heap.size W w' := fun W hW => Leaf_any A m cap b2 W (Hg5.out.below hW) (Hr2'.out.below hW) (by omega)
  have c2 : ∀ W, Below w5.heap.size w5 W → Calls Tryd.prog 14 #[.slice A8 (1 + m) c8] W fun e w' => e = .returned (.agg (sumC (leafS b2)).toArray) ∧ Below W.heap.size W w' := fun W hW => Sum_any A8 (1 + m) c8 (0 :: b2) W (Hg5.out.below hW) (hr8'.below hW) (by omega) hc8
  have c3 : ∀ W, Below w5.heap.size w5 W → Calls Tryd.prog 18 #[.agg (sumC x).toArray, .agg (sumC y).toArray] W fun e w' => e = .returned (.agg (sumC (pairS x y)).toArray) ∧ Below W.heap.size W w' := fun W hW => Pair_any x.1 y.1 hx hy W (Hg5.out.below hW)
  have c4 : ∀ W, Below w5.heap.size w5 W → Calls Tryd.prog 14 #[.slice A9 (1 + 32 + 32) c9] W fun e w' => e = .returned (.agg (sumC (pairS x y)).toArray) ∧ Below W.heap.size W w' := fun W hW => Sum_any A9 (1 + 32 + 32) c9 (1 :: x.1 ++ y.1) W (Hg5.out.below hW) (hr9'.below hW) (by omega) hc9
  have e1 : ∀ W, (binOp .eql 32 (.agg (sumC (leafS b2)).toArray) (.agg (sumC (leafS b2)).toArray)).run Tryd.prog W = .ok (.bool true) W := fun W => by rw [run_eql_sum, decide_eq_true rfl]
  have e2 : ∀ W, (binOp .eql 32 (.agg (sumC (pairS x y)).toArray) (.agg (sumC (pairS x y)).toArray)).run Tryd.prog W = .ok (.bool true) W := fun W => by rw [run_eql_sum, decide_eq_true rfl]
  have C1 := Lib.hid c1
  have C2 := Lib.hid c2
  have C3 := Lib.hid c3
  have C4 := Lib.hid c4
  clear c1 c2 c3 c4 hr8' hr9' hpb h0b
  refine (C1.out w5 (Below.refl _ _)).mono ?_
  rintro e w6 ⟨rfl, hb6⟩
  have Hb6 := Lib.hid hb6
  clear hb6
  go_wp2_with fail
  refine (C2.out w6 Hb6.out).mono ?_
  rintro e w7 ⟨rfl, hb7⟩
  have Hb7 := Lib.hid (Hb6.out.trans (hb7.mono Hb6.out.size))
  clear hb7
  have Hxr7 := Lib.hid (Blk.range (cs := sumC x) (HX5.out.below Hb7.out hlx))
  have Hyr7 := Lib.hid (Blk.range (cs := sumC y) (HY5.out.below Hb7.out hly))
  go_wp2_with (first | (refine wpList_load_mid_g (by first | rfl | simp [Region.wanted, yielded]) 32 (.tmp 4) rfl w.heap.size 0 rfl (sumC x) _ Hxr7.out und32 rfl (by rw [sumC_len]; kernel_rfl) ?_) | (refine wpList_load_mid_g (by first | rfl | simp [Region.wanted, yielded]) 32 (.tmp 5) rfl (w.heap.size + 1) 0 rfl (sumC y) _ Hyr7.out und32 rfl (by rw [sumC_len]; kernel_rfl) ?_))
  refine (C3.out w7 Hb7.out).mono ?_
  rintro e w8 ⟨rfl, hb8⟩
  have Hb8 := Lib.hid (Hb7.out.trans (hb8.mono Hb7.out.size))
  clear hb8
  go_wp2_with fail
  refine (C4.out w8 Hb8.out).mono ?_
  rintro e w9 ⟨rfl, hb9⟩
  have Hb9 := Lib.hid (HB5.out.trans ((Hb8.out.trans (hb9.mono Hb8.out.size)).mono HB5.out.size))
  clear hb9
  go_wp2_with fail
  go_ret
  exact ⟨rfl, Hb9.out⟩
end Go.Proofs.YtgblkaoioeceiaaDoor
