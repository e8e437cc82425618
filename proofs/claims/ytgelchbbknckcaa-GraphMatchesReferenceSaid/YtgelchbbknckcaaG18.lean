/- The fixed examples. -/
import Derived.Test.YtgelchbbknckcaaG17
import Derived.Test.YtgelchbbknckcaaFlow
namespace Go.Proofs.Ytgelchbbknckcaa
open Go.RowKit Go.Sort

def spRs (xs : List Int) (k e : Int) : Spec := ⟨fun v W => ∃ (A : Option Addr) (c : Nat), v = .agg (rsV A xs.length c k e).toArray ∧ Rd W 1 A xs.length (xs.map intV), fun _ _ _ ⟨A, c, h1, h2⟩ hb => ⟨A, c, h1, h2.below hb⟩⟩
def spSl (xs : List Int) : Spec := ⟨fun v W => ∃ (A : Option Addr) (c : Nat), v = .slice A xs.length c ∧ Rd W 1 A xs.length (xs.map intV), fun _ _ _ ⟨A, c, h1, h2⟩ hb => ⟨A, c, h1, h2.below hb⟩⟩
theorem built40 (f t : Int) (n : Nd) : Try.prog.built 40 [(0, .int .i64 f), (1, .int .i64 t), (2, .agg (ndV n).toArray)] = some (asV f t n).toArray := by kernel_rfl
theorem built44b (A : Option Addr) (n c : Nat) (k : Int) : Try.prog.built 44 [(0, .slice A n c), (1, .int .i64 k)] = some (rsV A n c k 0).toArray := by kernel_rfl
theorem built44c (e : Int) : Try.prog.built 44 [(2, .int .i64 e)] = some (rsV none 0 0 0 e).toArray := by kernel_rfl
theorem built44z : Try.prog.built 44 [] = some (rsV none 0 0 0 0).toArray := by kernel_rfl
theorem lit_rdI (W : World) (xs : List Int) (h : xs.length ≤ 1000) : Rd (W.alloc (.cells (xs.map intV).toArray 3)) 1 (some ⟨W.heap.size, 0, none⟩) xs.length (xs.map intV) := by
  have := (Blk.new W 3 (xs.map intV).toArray).rd (xs := xs.map intV) (by rw [List.length_map]; omega)
  rwa [List.length_map] at this
theorem rows_rd (W : World) (e : TypeId) (ls : List Ln) (h : ls.length ≤ 1000 := by decide) : Rd (W.alloc (.cells (ls.flatMap lnV).toArray e)) 8 (some ⟨W.heap.size, 0, none⟩) ls.length (ls.flatMap lnV) := by
  have hl : ∀ l : List Ln, (l.flatMap lnV).length = l.length * 8 := fun l => by
    induction l with
    | nil => rfl
    | cons a l ih => rw [List.flatMap_cons, List.length_append, ih, lnV_len, List.length_cons]; omega
  refine ⟨hl ls, by omega, fun _ => ⟨_, _, rfl, fun j u hu => ?_⟩⟩
  have := cells_new W (ls.flatMap lnV) e j u hu
  rwa [show (⟨W.heap.size, 0, none⟩ : Addr).add j = ⟨W.heap.size, 0 + j, none⟩ from by unfold Addr.add; split <;> simp_all] at this
theorem built28r (ram : Int) : Try.prog.built 28 [(2, .int .i64 ram)] = some (ndV ⟨0, 0, ram, 0, 0⟩).toArray := by kernel_rfl
theorem built53n (f t c : Int) (n : Nd) : Try.prog.built 53 [(0, .int .i64 f), (1, .int .i64 t), (2, .int .i64 c), (3, .agg (ndV n).toArray)] = some (lnV ⟨f, t, c, n⟩).toArray := by kernel_rfl
theorem built53o (f t c : Int) : Try.prog.built 53 [(0, .int .i64 f), (1, .int .i64 t), (2, .int .i64 c)] = some (lnV ⟨f, t, c, ⟨0, 0, 0, 0, 0⟩⟩).toArray := by kernel_rfl
theorem built33n (A : Option Addr) (n c : Nat) (B : Option Addr) (m d : Nat) : Try.prog.built 33 [(0, .slice A n c), (1, .slice B m d)] = some (grV A n c B m d).toArray := by kernel_rfl

set_option maxRecDepth 100000 in
set_option maxHeartbeats 4000000 in
theorem sanity_any (w : World) : Calls Try.prog 11 #[] w fun e w' => e = .returned (.bool true) ∧ Below w.heap.size w w' := by
  obtain ⟨i3, hi3, hz3, hs3, hy3⟩ := info_parts info3
  obtain ⟨i33, hi33, hz33, hs33, hy33⟩ := info_parts info33
  obtain ⟨i53, hi53, hz53, hs53, hy53⟩ := info_parts info53
  obtain ⟨d33, hd33, hrow33⟩ := und33
  go_enter Try.func11, Try.ntmps11
  go_upto_region 2 with (first | (refine wpList_buildN rfl 28 _ rfl [(2, .int .i64 10)] rfl _ (built28r _) ?_) | (refine wpList_buildN rfl 28 _ rfl [(2, .int .i64 50)] rfl _ (built28r _) ?_) | (refine wpList_buildN rfl 53 _ rfl [(0, .int .i64 1), (1, .int .i64 2), (2, .int .i64 5), (3, .agg (ndV ⟨0, 0, 10, 0, 0⟩).toArray)] rfl _ (built53n _ _ _ _) ?_) | (refine wpList_buildN rfl 53 _ rfl [(0, .int .i64 2), (1, .int .i64 3), (2, .int .i64 5), (3, .agg (ndV ⟨0, 0, 10, 0, 0⟩).toArray)] rfl _ (built53n _ _ _ _) ?_) | (refine wpList_buildN rfl 53 _ rfl [(0, .int .i64 1), (1, .int .i64 3), (2, .int .i64 10), (3, .agg (ndV ⟨0, 0, 50, 0, 0⟩).toArray)] rfl _ (built53n _ _ _ _) ?_) | (refine wpList_buildN rfl 53 _ rfl [(0, .int .i64 1), (1, .int .i64 3), (2, .int .i64 11)] rfl _ (built53o _ _ _) ?_) | (refine wpList_buildSlice rfl 31 53 4 _ rfl (lsS.flatMap lnV).toArray i53 (.agg (lnV ln0).toArray) Try.underlying31 hi53 hz53 (by rw [hs53]; decide) (by rw [hs53]; decide) (by rw [hs53]; kernel_rfl) ?_))
  obtain ⟨w1, hw1⟩ : ∃ v, v = ((w.alloc (.cells #[.int .i64 1, .int .i64 2, .int .i64 3] 3)).alloc (.cells (lsS.flatMap lnV).toArray 53)).alloc (.cells #[.slice (some ⟨w.heap.size, 0, none⟩) 3 3, .slice (some ⟨w.heap.size + 1, 0, none⟩) 4 4] 33) := ⟨_, rfl⟩
  have hB : Below w.heap.size w w1 := by rw [hw1]; exact (((Below.refl _ _).alloc (Nat.le_refl _) _).alloc (by simp) _).alloc (by simp; omega) _
  have hA : Rd w1 1 (some ⟨w.heap.size, 0, none⟩) 3 (vsS.map intV) := by rw [hw1]; exact ((lit_rdI w vsS (by decide)).alloc _).alloc _
  have hL : Rd w1 8 (some ⟨w.heap.size + 1, 0, none⟩) 4 (lsS.flatMap lnV) := by
    have := rows_rd (w.alloc (.cells #[.int .i64 1, .int .i64 2, .int .i64 3] 3)) 53 lsS
    rw [World.size_alloc] at this
    rw [hw1]; exact this.alloc _
  have hG : Blk w1 (w.heap.size + 1 + 1) 33 (grV (some ⟨w.heap.size, 0, none⟩) 3 3 (some ⟨w.heap.size + 1, 0, none⟩) 4 4).toArray := by
    have := Blk.new ((w.alloc (.cells #[.int .i64 1, .int .i64 2, .int .i64 3] 3)).alloc (.cells (lsS.flatMap lnV).toArray 53)) 33 (grV (some ⟨w.heap.size, 0, none⟩) 3 3 (some ⟨w.heap.size + 1, 0, none⟩) 4 4).toArray
    rw [World.size_alloc, World.size_alloc] at this
    rw [hw1]; exact this
  rw [← hw1]
  clear hw1
  obtain ⟨ab, hab⟩ : ∃ v, v = w.heap.size := ⟨_, rfl⟩
  obtain ⟨bb, hbb⟩ : ∃ v, v = w.heap.size + 1 := ⟨_, rfl⟩
  obtain ⟨gb, hgb⟩ : ∃ v, v = w.heap.size + 1 + 1 := ⟨_, rfl⟩
  rw [← hgb, ← hbb, ← hab] at hG
  rw [← hbb] at hL
  rw [← hab] at hA
  rw [← hgb, ← hbb, ← hab]
  have HG := Lib.hid hG
  have HA := Lib.hid hA
  have HL := Lib.hid hL
  have HB := Lib.hid (show Below ab w w1 by rw [hab]; exact hB)
  have Hab := Lib.hid hab
  clear hG hA hL hB hab hbb hgb
  go_cut [2] from 15 to 39 (fun t2 wx => t2 = .bool true ∧ Below w1.heap.size w1 wx)
  case first =>
    refine wp_region_flow [15, 16, 17, 18, 19, 20, 21, 22, 23, 24, 25, 26, 27, 28, 29, 30, 31, 32, 33, 34, 35, 36, 37, 38, 39, 2] [Spec.is (.agg (grV (some ⟨ab, 0, none⟩) 3 3 (some ⟨bb, 0, none⟩) 4 4).toArray), Spec.is (.agg (ndV (limN 100)).toArray), Spec.is (.agg (asV 1 3 (limN 100)).toArray), spRs [2] 10 0, spSl [2], spRs [2] 10 0, Spec.is (.bool true), Spec.is (.bool true), Spec.is (.agg (grV (some ⟨ab, 0, none⟩) 3 3 (some ⟨bb, 0, none⟩) 4 4).toArray), Spec.is (.agg (ndV (limN 20)).toArray), Spec.is (.agg (asV 1 3 (limN 20)).toArray), spRs [0, 1] 10 0, spSl [0, 1], spRs [0, 1] 10 0, Spec.is (.bool true), Spec.is (.bool true), Spec.is (.bool true), Spec.is (.agg (grV (some ⟨ab, 0, none⟩) 3 3 (some ⟨bb, 0, none⟩) 4 4).toArray), Spec.is (.agg (ndV (limN 5)).toArray), Spec.is (.agg (asV 1 3 (limN 5)).toArray), spRs [3] 11 0, spSl [3], spRs [3] 11 0, Spec.is (.bool true), Spec.is (.bool true), Spec.is (.bool true)] 113 (by kernel_rfl) rfl (by decide) rfl (by decide) (by kernel_rfl) ?_ ?_
    · refine ⟨?_, ?_, ?_, ?_, ?_, ?_, ?_, ?_, ?_, ?_, ?_, ?_, ?_, ?_, ?_, ?_, ?_, ?_, ?_, ?_, ?_, ?_, ?_, ?_, ?_, ?_, trivial⟩
      · intro a W hE hb hs
        have h1 : a.eval (.tmp 1) = .pointer (some ⟨gb, 0, none⟩) := hb 1 (by decide)
        refine flow0 rfl ?_
        exact val_load_row 33 _ rfl gb 0 h1 (grV (some ⟨ab, 0, none⟩) 3 3 (some ⟨bb, 0, none⟩) 4 4) d33 (Blk.range (HG.out.below (ext_below hE) HG.out.lt)) hd33 hrow33 (by rw [grV_len]; kernel_rfl) rfl
      · intro a W hE hb hs
        refine flow0 rfl ?_
        exact val_call 27 _ _ rfl (by kernel_rfl) [.int .i64 100] rfl ((limits_any 100 W).mono (by rintro e W' ⟨rfl, hb⟩; exact ⟨_, rfl, hb, rfl⟩))
      · intro a W hE hb hs
        have h16 : a.eval (.tmp 16) = .agg (ndV (limN 100)).toArray := hs 1 (by decide)
        refine flow0 rfl ?_
        exact val_build 40 _ rfl [(0, .int .i64 1), (1, .int .i64 3), (2, .agg (ndV (limN 100)).toArray)] (by show [(0, a.eval (.const (.int .i64 1))), (1, a.eval (.const (.int .i64 3))), (2, a.eval (.tmp 16))] = _; rw [h16]; rfl) _ (built40 1 3 (limN 100)) rfl
      · intro a W hE hb hs
        have h15 : a.eval (.tmp 15) = .agg (grV (some ⟨ab, 0, none⟩) 3 3 (some ⟨bb, 0, none⟩) 4 4).toArray := hs 0 (by decide)
        have h17 : a.eval (.tmp 17) = .agg (asV 1 3 (limN 100)).toArray := hs 2 (by decide)
        refine flow0 rfl ?_
        exact val_call 18 _ _ rfl (by kernel_rfl) [.agg (grV (some ⟨ab, 0, none⟩) 3 3 (some ⟨bb, 0, none⟩) 4 4).toArray, .agg (asV 1 3 (limN 100)).toArray] (by show [a.eval (.tmp 15), a.eval (.tmp 17)] = _; rw [h15, h17]) ((path_any _ 3 3 _ 4 4 vsS lsS 1 3 (limN 100) W (HA.out.below (ext_below hE)) (HL.out.below (ext_below hE)) vgS).mono (by
          rintro e W' ⟨⟨A', c', L, k, x, rfl, hr, hp, _⟩, hb⟩
          obtain ⟨rfl, rfl, rfl⟩ : L = [2] ∧ k = 10 ∧ x = 0 := by have := pS1 hp; simpa using this
          exact ⟨_, rfl, hb, A', c', rfl, hr.rd⟩))
      · intro a W hE hb hs
        refine flow0 rfl ?_
        exact val_buildSlice 30 3 1 _ rfl [(0, .int .i64 2)] rfl #[.int .i64 2] i3 (.int .i64 0) 1 Try.underlying30 hi3 hz3 hs3 (by decide) (by decide) (by kernel_rfl) ⟨some ⟨W.heap.size, 0, none⟩, 1, rfl, lit_rdI W [2] (by decide)⟩
      · intro a W hE hb hs
        have h19 : ∃ (A : Option Addr) (c : Nat), (a.eval (.tmp 19)) = .slice A ([2] : List Int).length c ∧ Rd W 1 A ([2] : List Int).length (([2] : List Int).map intV) := hs 4 (by decide)
        refine flow0 rfl ?_
        obtain ⟨A1, c1, e1, r1⟩ := h19
        exact val_build 44 _ rfl [(0, .slice A1 1 c1), (1, .int .i64 10)] (by show [(0, a.eval (.tmp 19)), (1, a.eval (.const (.int .i64 10)))] = _; rw [e1]; rfl) _ (built44b _ _ _ _) ⟨A1, c1, rfl, r1⟩
      · intro a W hE hb hs
        have h18 : ∃ (A : Option Addr) (c : Nat), (a.eval (.tmp 18)) = .agg (rsV A ([2] : List Int).length c 10 0).toArray ∧ Rd W 1 A ([2] : List Int).length (([2] : List Int).map intV) := hs 3 (by decide)
        have h20 : ∃ (A : Option Addr) (c : Nat), (a.eval (.tmp 20)) = .agg (rsV A ([2] : List Int).length c 10 0).toArray ∧ Rd W 1 A ([2] : List Int).length (([2] : List Int).map intV) := hs 5 (by decide)
        refine flow0 rfl ?_
        obtain ⟨A1, c1, e1, r1⟩ := h18
        obtain ⟨A2, c2, e2, r2⟩ := h20
        exact val_call 17 _ _ rfl (by kernel_rfl) [_, _] (by show [a.eval (.tmp 18), a.eval (.tmp 20)] = _; rw [e1, e2]) ((Same_any A1 A2 _ _ c1 c2 _ _ _ _ _ _ W r1 r2).mono (by rintro e W' ⟨rfl, hb⟩; exact ⟨_, rfl, hb, congrArg Value.bool (by decide)⟩))
      · intro a W hE hb hs
        have h21 : a.eval (.tmp 21) = .bool true := hs 6 (by decide)
        refine flow0 rfl ?_
        exact val_move _ rfl _ h21 rfl
      · intro a W hE hb hs
        have h22 : a.eval (.tmp 22) = .bool true := hs 7 (by decide)
        have h1 : a.eval (.tmp 1) = .pointer (some ⟨gb, 0, none⟩) := hb 1 (by decide)
        refine flowY rfl rfl h22 ?_
        exact val_load_row 33 _ rfl gb 0 h1 (grV (some ⟨ab, 0, none⟩) 3 3 (some ⟨bb, 0, none⟩) 4 4) d33 (Blk.range (HG.out.below (ext_below hE) HG.out.lt)) hd33 hrow33 (by rw [grV_len]; kernel_rfl) rfl
      · intro a W hE hb hs
        have h22 : a.eval (.tmp 22) = .bool true := hs 7 (by decide)
        refine flowY rfl rfl h22 ?_
        exact val_call 27 _ _ rfl (by kernel_rfl) [.int .i64 20] rfl ((limits_any 20 W).mono (by rintro e W' ⟨rfl, hb⟩; exact ⟨_, rfl, hb, rfl⟩))
      · intro a W hE hb hs
        have h22 : a.eval (.tmp 22) = .bool true := hs 7 (by decide)
        have h24 : a.eval (.tmp 24) = .agg (ndV (limN 20)).toArray := hs 9 (by decide)
        refine flowY rfl rfl h22 ?_
        exact val_build 40 _ rfl [(0, .int .i64 1), (1, .int .i64 3), (2, .agg (ndV (limN 20)).toArray)] (by show [(0, a.eval (.const (.int .i64 1))), (1, a.eval (.const (.int .i64 3))), (2, a.eval (.tmp 24))] = _; rw [h24]; rfl) _ (built40 1 3 (limN 20)) rfl
      · intro a W hE hb hs
        have h22 : a.eval (.tmp 22) = .bool true := hs 7 (by decide)
        have h23 : a.eval (.tmp 23) = .agg (grV (some ⟨ab, 0, none⟩) 3 3 (some ⟨bb, 0, none⟩) 4 4).toArray := hs 8 (by decide)
        have h25 : a.eval (.tmp 25) = .agg (asV 1 3 (limN 20)).toArray := hs 10 (by decide)
        refine flowY rfl rfl h22 ?_
        exact val_call 18 _ _ rfl (by kernel_rfl) [.agg (grV (some ⟨ab, 0, none⟩) 3 3 (some ⟨bb, 0, none⟩) 4 4).toArray, .agg (asV 1 3 (limN 20)).toArray] (by show [a.eval (.tmp 23), a.eval (.tmp 25)] = _; rw [h23, h25]) ((path_any _ 3 3 _ 4 4 vsS lsS 1 3 (limN 20) W (HA.out.below (ext_below hE)) (HL.out.below (ext_below hE)) vgS).mono (by
          rintro e W' ⟨⟨A', c', L, k, x, rfl, hr, hp, _⟩, hb⟩
          obtain ⟨rfl, rfl, rfl⟩ : L = [0, 1] ∧ k = 10 ∧ x = 0 := by have := pS2 hp; simpa using this
          exact ⟨_, rfl, hb, A', c', rfl, hr.rd⟩))
      · intro a W hE hb hs
        have h22 : a.eval (.tmp 22) = .bool true := hs 7 (by decide)
        refine flowY rfl rfl h22 ?_
        exact val_buildSlice 30 3 2 _ rfl [(0, .int .i64 0), (1, .int .i64 1)] rfl #[.int .i64 0, .int .i64 1] i3 (.int .i64 0) 1 Try.underlying30 hi3 hz3 hs3 (by decide) (by decide) (by kernel_rfl) ⟨some ⟨W.heap.size, 0, none⟩, 2, rfl, lit_rdI W [0, 1] (by decide)⟩
      · intro a W hE hb hs
        have h22 : a.eval (.tmp 22) = .bool true := hs 7 (by decide)
        have h27 : ∃ (A : Option Addr) (c : Nat), (a.eval (.tmp 27)) = .slice A ([0, 1] : List Int).length c ∧ Rd W 1 A ([0, 1] : List Int).length (([0, 1] : List Int).map intV) := hs 12 (by decide)
        refine flowY rfl rfl h22 ?_
        obtain ⟨A1, c1, e1, r1⟩ := h27
        exact val_build 44 _ rfl [(0, .slice A1 2 c1), (1, .int .i64 10)] (by show [(0, a.eval (.tmp 27)), (1, a.eval (.const (.int .i64 10)))] = _; rw [e1]; rfl) _ (built44b _ _ _ _) ⟨A1, c1, rfl, r1⟩
      · intro a W hE hb hs
        have h22 : a.eval (.tmp 22) = .bool true := hs 7 (by decide)
        have h26 : ∃ (A : Option Addr) (c : Nat), (a.eval (.tmp 26)) = .agg (rsV A ([0, 1] : List Int).length c 10 0).toArray ∧ Rd W 1 A ([0, 1] : List Int).length (([0, 1] : List Int).map intV) := hs 11 (by decide)
        have h28 : ∃ (A : Option Addr) (c : Nat), (a.eval (.tmp 28)) = .agg (rsV A ([0, 1] : List Int).length c 10 0).toArray ∧ Rd W 1 A ([0, 1] : List Int).length (([0, 1] : List Int).map intV) := hs 13 (by decide)
        refine flowY rfl rfl h22 ?_
        obtain ⟨A1, c1, e1, r1⟩ := h26
        obtain ⟨A2, c2, e2, r2⟩ := h28
        exact val_call 17 _ _ rfl (by kernel_rfl) [_, _] (by show [a.eval (.tmp 26), a.eval (.tmp 28)] = _; rw [e1, e2]) ((Same_any A1 A2 _ _ c1 c2 _ _ _ _ _ _ W r1 r2).mono (by rintro e W' ⟨rfl, hb⟩; exact ⟨_, rfl, hb, congrArg Value.bool (by decide)⟩))
      · intro a W hE hb hs
        have h22 : a.eval (.tmp 22) = .bool true := hs 7 (by decide)
        have h29 : a.eval (.tmp 29) = .bool true := hs 14 (by decide)
        refine flow0 rfl ?_
        exact val_pick _ _ _ rfl true h22 _ (by rw [if_pos rfl]; exact h29) rfl
      · intro a W hE hb hs
        have h30 : a.eval (.tmp 30) = .bool true := hs 15 (by decide)
        refine flow0 rfl ?_
        exact val_move _ rfl _ h30 rfl
      · intro a W hE hb hs
        have h31 : a.eval (.tmp 31) = .bool true := hs 16 (by decide)
        have h1 : a.eval (.tmp 1) = .pointer (some ⟨gb, 0, none⟩) := hb 1 (by decide)
        refine flowY rfl rfl h31 ?_
        exact val_load_row 33 _ rfl gb 0 h1 (grV (some ⟨ab, 0, none⟩) 3 3 (some ⟨bb, 0, none⟩) 4 4) d33 (Blk.range (HG.out.below (ext_below hE) HG.out.lt)) hd33 hrow33 (by rw [grV_len]; kernel_rfl) rfl
      · intro a W hE hb hs
        have h31 : a.eval (.tmp 31) = .bool true := hs 16 (by decide)
        refine flowY rfl rfl h31 ?_
        exact val_call 27 _ _ rfl (by kernel_rfl) [.int .i64 5] rfl ((limits_any 5 W).mono (by rintro e W' ⟨rfl, hb⟩; exact ⟨_, rfl, hb, rfl⟩))
      · intro a W hE hb hs
        have h31 : a.eval (.tmp 31) = .bool true := hs 16 (by decide)
        have h33 : a.eval (.tmp 33) = .agg (ndV (limN 5)).toArray := hs 18 (by decide)
        refine flowY rfl rfl h31 ?_
        exact val_build 40 _ rfl [(0, .int .i64 1), (1, .int .i64 3), (2, .agg (ndV (limN 5)).toArray)] (by show [(0, a.eval (.const (.int .i64 1))), (1, a.eval (.const (.int .i64 3))), (2, a.eval (.tmp 33))] = _; rw [h33]; rfl) _ (built40 1 3 (limN 5)) rfl
      · intro a W hE hb hs
        have h31 : a.eval (.tmp 31) = .bool true := hs 16 (by decide)
        have h32 : a.eval (.tmp 32) = .agg (grV (some ⟨ab, 0, none⟩) 3 3 (some ⟨bb, 0, none⟩) 4 4).toArray := hs 17 (by decide)
        have h34 : a.eval (.tmp 34) = .agg (asV 1 3 (limN 5)).toArray := hs 19 (by decide)
        refine flowY rfl rfl h31 ?_
        exact val_call 18 _ _ rfl (by kernel_rfl) [.agg (grV (some ⟨ab, 0, none⟩) 3 3 (some ⟨bb, 0, none⟩) 4 4).toArray, .agg (asV 1 3 (limN 5)).toArray] (by show [a.eval (.tmp 32), a.eval (.tmp 34)] = _; rw [h32, h34]) ((path_any _ 3 3 _ 4 4 vsS lsS 1 3 (limN 5) W (HA.out.below (ext_below hE)) (HL.out.below (ext_below hE)) vgS).mono (by
          rintro e W' ⟨⟨A', c', L, k, x, rfl, hr, hp, _⟩, hb⟩
          obtain ⟨rfl, rfl, rfl⟩ : L = [3] ∧ k = 11 ∧ x = 0 := by have := pS3 hp; simpa using this
          exact ⟨_, rfl, hb, A', c', rfl, hr.rd⟩))
      · intro a W hE hb hs
        have h31 : a.eval (.tmp 31) = .bool true := hs 16 (by decide)
        refine flowY rfl rfl h31 ?_
        exact val_buildSlice 30 3 1 _ rfl [(0, .int .i64 3)] rfl #[.int .i64 3] i3 (.int .i64 0) 1 Try.underlying30 hi3 hz3 hs3 (by decide) (by decide) (by kernel_rfl) ⟨some ⟨W.heap.size, 0, none⟩, 1, rfl, lit_rdI W [3] (by decide)⟩
      · intro a W hE hb hs
        have h31 : a.eval (.tmp 31) = .bool true := hs 16 (by decide)
        have h36 : ∃ (A : Option Addr) (c : Nat), (a.eval (.tmp 36)) = .slice A ([3] : List Int).length c ∧ Rd W 1 A ([3] : List Int).length (([3] : List Int).map intV) := hs 21 (by decide)
        refine flowY rfl rfl h31 ?_
        obtain ⟨A1, c1, e1, r1⟩ := h36
        exact val_build 44 _ rfl [(0, .slice A1 1 c1), (1, .int .i64 11)] (by show [(0, a.eval (.tmp 36)), (1, a.eval (.const (.int .i64 11)))] = _; rw [e1]; rfl) _ (built44b _ _ _ _) ⟨A1, c1, rfl, r1⟩
      · intro a W hE hb hs
        have h31 : a.eval (.tmp 31) = .bool true := hs 16 (by decide)
        have h35 : ∃ (A : Option Addr) (c : Nat), (a.eval (.tmp 35)) = .agg (rsV A ([3] : List Int).length c 11 0).toArray ∧ Rd W 1 A ([3] : List Int).length (([3] : List Int).map intV) := hs 20 (by decide)
        have h37 : ∃ (A : Option Addr) (c : Nat), (a.eval (.tmp 37)) = .agg (rsV A ([3] : List Int).length c 11 0).toArray ∧ Rd W 1 A ([3] : List Int).length (([3] : List Int).map intV) := hs 22 (by decide)
        refine flowY rfl rfl h31 ?_
        obtain ⟨A1, c1, e1, r1⟩ := h35
        obtain ⟨A2, c2, e2, r2⟩ := h37
        exact val_call 17 _ _ rfl (by kernel_rfl) [_, _] (by show [a.eval (.tmp 35), a.eval (.tmp 37)] = _; rw [e1, e2]) ((Same_any A1 A2 _ _ c1 c2 _ _ _ _ _ _ W r1 r2).mono (by rintro e W' ⟨rfl, hb⟩; exact ⟨_, rfl, hb, congrArg Value.bool (by decide)⟩))
      · intro a W hE hb hs
        have h31 : a.eval (.tmp 31) = .bool true := hs 16 (by decide)
        have h38 : a.eval (.tmp 38) = .bool true := hs 23 (by decide)
        refine flow0 rfl ?_
        exact val_pick _ _ _ rfl true h31 _ (by rw [if_pos rfl]; exact h38) rfl
      · intro a W hE hb hs
        have h39 : a.eval (.tmp 39) = .bool true := hs 24 (by decide)
        refine flow0 rfl ?_
        exact val_assign _ rfl _ h39 rfl
    · intro f W hbW hT
      have hres : f 2 = .bool true := hT 25 (by decide)
      simp only [putV, List.foldl_cons, List.foldl_nil, Act.put, List.setIfInBounds_toArray, List.set_cons_succ, List.set_cons_zero, Exit.then]
      rw [hres]
      clear hT hres
      have Hend := Lib.hid hbW
      clear hbW
      go_wp2_with fail
      go_meet
      exact ⟨rfl, Hend.out⟩
  case' rest => skip
  obtain ⟨rfl, hb_⟩ := hcut
  obtain ⟨w2, h_⟩ : ∃ v, v = wc := ⟨_, rfl⟩
  subst h_
  replace HG := Lib.hid (HG.out.below hb_ HG.out.lt)
  replace HA := Lib.hid (HA.out.below hb_)
  replace HL := Lib.hid (HL.out.below hb_)
  replace HB := Lib.hid (HB.out.trans (hb_.mono (by have := HB.out.size; have := Hab.out; omega)))
  clear hb_
  go_upto_region 3 with fail
  go_cut [3] from 40 to 61 (fun t3 wx => t3 = .bool true ∧ Below w2.heap.size w2 wx)
  case first =>
    refine wp_region_flow [40, 41, 42, 43, 44, 45, 46, 47, 48, 49, 50, 51, 52, 53, 54, 55, 56, 57, 58, 59, 60, 61, 3] [Spec.is (.agg (grV (some ⟨ab, 0, none⟩) 3 3 (some ⟨bb, 0, none⟩) 4 4).toArray), Spec.is (.agg (ndV (limN 100)).toArray), Spec.is (.agg (asV 3 1 (limN 100)).toArray), spRs [] 0 290, spRs [] 0 290, Spec.is (.bool true), Spec.is (.bool true), Spec.is (.agg (grV (some ⟨ab, 0, none⟩) 3 3 (some ⟨bb, 0, none⟩) 4 4).toArray), Spec.is (.agg (ndV (limN 100)).toArray), Spec.is (.agg (asV 1 4 (limN 100)).toArray), spRs [] 0 291, spRs [] 0 291, Spec.is (.bool true), Spec.is (.bool true), Spec.is (.bool true), Spec.is (.agg (grV (some ⟨ab, 0, none⟩) 3 3 (some ⟨bb, 0, none⟩) 4 4).toArray), Spec.is (.agg (ndV (limN 0)).toArray), Spec.is (.agg (asV 2 2 (limN 0)).toArray), spRs [] 0 0, spRs [] 0 0, Spec.is (.bool true), Spec.is (.bool true), Spec.is (.bool true)] 113 (by kernel_rfl) rfl (by decide) rfl (by decide) (by kernel_rfl) ?_ ?_
    · refine ⟨?_, ?_, ?_, ?_, ?_, ?_, ?_, ?_, ?_, ?_, ?_, ?_, ?_, ?_, ?_, ?_, ?_, ?_, ?_, ?_, ?_, ?_, ?_, trivial⟩
      · intro a W hE hb hs
        have h1 : a.eval (.tmp 1) = .pointer (some ⟨gb, 0, none⟩) := hb 1 (by decide)
        refine flow0 rfl ?_
        exact val_load_row 33 _ rfl gb 0 h1 (grV (some ⟨ab, 0, none⟩) 3 3 (some ⟨bb, 0, none⟩) 4 4) d33 (Blk.range (HG.out.below (ext_below hE) HG.out.lt)) hd33 hrow33 (by rw [grV_len]; kernel_rfl) rfl
      · intro a W hE hb hs
        refine flow0 rfl ?_
        exact val_call 27 _ _ rfl (by kernel_rfl) [.int .i64 100] rfl ((limits_any 100 W).mono (by rintro e W' ⟨rfl, hb⟩; exact ⟨_, rfl, hb, rfl⟩))
      · intro a W hE hb hs
        have h41 : a.eval (.tmp 41) = .agg (ndV (limN 100)).toArray := hs 1 (by decide)
        refine flow0 rfl ?_
        exact val_build 40 _ rfl [(0, .int .i64 3), (1, .int .i64 1), (2, .agg (ndV (limN 100)).toArray)] (by show [(0, a.eval (.const (.int .i64 3))), (1, a.eval (.const (.int .i64 1))), (2, a.eval (.tmp 41))] = _; rw [h41]; rfl) _ (built40 3 1 (limN 100)) rfl
      · intro a W hE hb hs
        have h40 : a.eval (.tmp 40) = .agg (grV (some ⟨ab, 0, none⟩) 3 3 (some ⟨bb, 0, none⟩) 4 4).toArray := hs 0 (by decide)
        have h42 : a.eval (.tmp 42) = .agg (asV 3 1 (limN 100)).toArray := hs 2 (by decide)
        refine flow0 rfl ?_
        exact val_call 18 _ _ rfl (by kernel_rfl) [.agg (grV (some ⟨ab, 0, none⟩) 3 3 (some ⟨bb, 0, none⟩) 4 4).toArray, .agg (asV 3 1 (limN 100)).toArray] (by show [a.eval (.tmp 40), a.eval (.tmp 42)] = _; rw [h40, h42]) ((path_any _ 3 3 _ 4 4 vsS lsS 3 1 (limN 100) W (HA.out.below (ext_below hE)) (HL.out.below (ext_below hE)) vgS).mono (by
          rintro e W' ⟨⟨A', c', L, k, x, rfl, hr, hp, _⟩, hb⟩
          obtain ⟨rfl, rfl, rfl⟩ : L = [] ∧ k = 0 ∧ x = 290 := by have := pS4 hp; simpa using this
          exact ⟨_, rfl, hb, A', c', rfl, hr.rd⟩))
      · intro a W hE hb hs
        refine flow0 rfl ?_
        exact val_build 44 _ rfl [(2, .int .i64 290)] rfl _ (built44c 290) ⟨none, 0, rfl, Rd.nil _ _ _⟩
      · intro a W hE hb hs
        have h43 : ∃ (A : Option Addr) (c : Nat), (a.eval (.tmp 43)) = .agg (rsV A ([] : List Int).length c 0 290).toArray ∧ Rd W 1 A ([] : List Int).length (([] : List Int).map intV) := hs 3 (by decide)
        have h44 : ∃ (A : Option Addr) (c : Nat), (a.eval (.tmp 44)) = .agg (rsV A ([] : List Int).length c 0 290).toArray ∧ Rd W 1 A ([] : List Int).length (([] : List Int).map intV) := hs 4 (by decide)
        refine flow0 rfl ?_
        obtain ⟨A1, c1, e1, r1⟩ := h43
        obtain ⟨A2, c2, e2, r2⟩ := h44
        exact val_call 17 _ _ rfl (by kernel_rfl) [_, _] (by show [a.eval (.tmp 43), a.eval (.tmp 44)] = _; rw [e1, e2]) ((Same_any A1 A2 _ _ c1 c2 _ _ _ _ _ _ W r1 r2).mono (by rintro e W' ⟨rfl, hb⟩; exact ⟨_, rfl, hb, congrArg Value.bool (by decide)⟩))
      · intro a W hE hb hs
        have h45 : a.eval (.tmp 45) = .bool true := hs 5 (by decide)
        refine flow0 rfl ?_
        exact val_move _ rfl _ h45 rfl
      · intro a W hE hb hs
        have h46 : a.eval (.tmp 46) = .bool true := hs 6 (by decide)
        have h1 : a.eval (.tmp 1) = .pointer (some ⟨gb, 0, none⟩) := hb 1 (by decide)
        refine flowY rfl rfl h46 ?_
        exact val_load_row 33 _ rfl gb 0 h1 (grV (some ⟨ab, 0, none⟩) 3 3 (some ⟨bb, 0, none⟩) 4 4) d33 (Blk.range (HG.out.below (ext_below hE) HG.out.lt)) hd33 hrow33 (by rw [grV_len]; kernel_rfl) rfl
      · intro a W hE hb hs
        have h46 : a.eval (.tmp 46) = .bool true := hs 6 (by decide)
        refine flowY rfl rfl h46 ?_
        exact val_call 27 _ _ rfl (by kernel_rfl) [.int .i64 100] rfl ((limits_any 100 W).mono (by rintro e W' ⟨rfl, hb⟩; exact ⟨_, rfl, hb, rfl⟩))
      · intro a W hE hb hs
        have h46 : a.eval (.tmp 46) = .bool true := hs 6 (by decide)
        have h48 : a.eval (.tmp 48) = .agg (ndV (limN 100)).toArray := hs 8 (by decide)
        refine flowY rfl rfl h46 ?_
        exact val_build 40 _ rfl [(0, .int .i64 1), (1, .int .i64 4), (2, .agg (ndV (limN 100)).toArray)] (by show [(0, a.eval (.const (.int .i64 1))), (1, a.eval (.const (.int .i64 4))), (2, a.eval (.tmp 48))] = _; rw [h48]; rfl) _ (built40 1 4 (limN 100)) rfl
      · intro a W hE hb hs
        have h46 : a.eval (.tmp 46) = .bool true := hs 6 (by decide)
        have h47 : a.eval (.tmp 47) = .agg (grV (some ⟨ab, 0, none⟩) 3 3 (some ⟨bb, 0, none⟩) 4 4).toArray := hs 7 (by decide)
        have h49 : a.eval (.tmp 49) = .agg (asV 1 4 (limN 100)).toArray := hs 9 (by decide)
        refine flowY rfl rfl h46 ?_
        exact val_call 18 _ _ rfl (by kernel_rfl) [.agg (grV (some ⟨ab, 0, none⟩) 3 3 (some ⟨bb, 0, none⟩) 4 4).toArray, .agg (asV 1 4 (limN 100)).toArray] (by show [a.eval (.tmp 47), a.eval (.tmp 49)] = _; rw [h47, h49]) ((path_any _ 3 3 _ 4 4 vsS lsS 1 4 (limN 100) W (HA.out.below (ext_below hE)) (HL.out.below (ext_below hE)) vgS).mono (by
          rintro e W' ⟨⟨A', c', L, k, x, rfl, hr, hp, _⟩, hb⟩
          obtain ⟨rfl, rfl, rfl⟩ : L = [] ∧ k = 0 ∧ x = 291 := by have := pS5 hp; simpa using this
          exact ⟨_, rfl, hb, A', c', rfl, hr.rd⟩))
      · intro a W hE hb hs
        have h46 : a.eval (.tmp 46) = .bool true := hs 6 (by decide)
        refine flowY rfl rfl h46 ?_
        exact val_build 44 _ rfl [(2, .int .i64 291)] rfl _ (built44c 291) ⟨none, 0, rfl, Rd.nil _ _ _⟩
      · intro a W hE hb hs
        have h46 : a.eval (.tmp 46) = .bool true := hs 6 (by decide)
        have h50 : ∃ (A : Option Addr) (c : Nat), (a.eval (.tmp 50)) = .agg (rsV A ([] : List Int).length c 0 291).toArray ∧ Rd W 1 A ([] : List Int).length (([] : List Int).map intV) := hs 10 (by decide)
        have h51 : ∃ (A : Option Addr) (c : Nat), (a.eval (.tmp 51)) = .agg (rsV A ([] : List Int).length c 0 291).toArray ∧ Rd W 1 A ([] : List Int).length (([] : List Int).map intV) := hs 11 (by decide)
        refine flowY rfl rfl h46 ?_
        obtain ⟨A1, c1, e1, r1⟩ := h50
        obtain ⟨A2, c2, e2, r2⟩ := h51
        exact val_call 17 _ _ rfl (by kernel_rfl) [_, _] (by show [a.eval (.tmp 50), a.eval (.tmp 51)] = _; rw [e1, e2]) ((Same_any A1 A2 _ _ c1 c2 _ _ _ _ _ _ W r1 r2).mono (by rintro e W' ⟨rfl, hb⟩; exact ⟨_, rfl, hb, congrArg Value.bool (by decide)⟩))
      · intro a W hE hb hs
        have h46 : a.eval (.tmp 46) = .bool true := hs 6 (by decide)
        have h52 : a.eval (.tmp 52) = .bool true := hs 12 (by decide)
        refine flow0 rfl ?_
        exact val_pick _ _ _ rfl true h46 _ (by rw [if_pos rfl]; exact h52) rfl
      · intro a W hE hb hs
        have h53 : a.eval (.tmp 53) = .bool true := hs 13 (by decide)
        refine flow0 rfl ?_
        exact val_move _ rfl _ h53 rfl
      · intro a W hE hb hs
        have h54 : a.eval (.tmp 54) = .bool true := hs 14 (by decide)
        have h1 : a.eval (.tmp 1) = .pointer (some ⟨gb, 0, none⟩) := hb 1 (by decide)
        refine flowY rfl rfl h54 ?_
        exact val_load_row 33 _ rfl gb 0 h1 (grV (some ⟨ab, 0, none⟩) 3 3 (some ⟨bb, 0, none⟩) 4 4) d33 (Blk.range (HG.out.below (ext_below hE) HG.out.lt)) hd33 hrow33 (by rw [grV_len]; kernel_rfl) rfl
      · intro a W hE hb hs
        have h54 : a.eval (.tmp 54) = .bool true := hs 14 (by decide)
        refine flowY rfl rfl h54 ?_
        exact val_call 27 _ _ rfl (by kernel_rfl) [.int .i64 0] rfl ((limits_any 0 W).mono (by rintro e W' ⟨rfl, hb⟩; exact ⟨_, rfl, hb, rfl⟩))
      · intro a W hE hb hs
        have h54 : a.eval (.tmp 54) = .bool true := hs 14 (by decide)
        have h56 : a.eval (.tmp 56) = .agg (ndV (limN 0)).toArray := hs 16 (by decide)
        refine flowY rfl rfl h54 ?_
        exact val_build 40 _ rfl [(0, .int .i64 2), (1, .int .i64 2), (2, .agg (ndV (limN 0)).toArray)] (by show [(0, a.eval (.const (.int .i64 2))), (1, a.eval (.const (.int .i64 2))), (2, a.eval (.tmp 56))] = _; rw [h56]; rfl) _ (built40 2 2 (limN 0)) rfl
      · intro a W hE hb hs
        have h54 : a.eval (.tmp 54) = .bool true := hs 14 (by decide)
        have h55 : a.eval (.tmp 55) = .agg (grV (some ⟨ab, 0, none⟩) 3 3 (some ⟨bb, 0, none⟩) 4 4).toArray := hs 15 (by decide)
        have h57 : a.eval (.tmp 57) = .agg (asV 2 2 (limN 0)).toArray := hs 17 (by decide)
        refine flowY rfl rfl h54 ?_
        exact val_call 18 _ _ rfl (by kernel_rfl) [.agg (grV (some ⟨ab, 0, none⟩) 3 3 (some ⟨bb, 0, none⟩) 4 4).toArray, .agg (asV 2 2 (limN 0)).toArray] (by show [a.eval (.tmp 55), a.eval (.tmp 57)] = _; rw [h55, h57]) ((path_any _ 3 3 _ 4 4 vsS lsS 2 2 (limN 0) W (HA.out.below (ext_below hE)) (HL.out.below (ext_below hE)) vgS).mono (by
          rintro e W' ⟨⟨A', c', L, k, x, rfl, hr, hp, _⟩, hb⟩
          obtain ⟨rfl, rfl, rfl⟩ : L = [] ∧ k = 0 ∧ x = 0 := by have := pS6 hp; simpa using this
          exact ⟨_, rfl, hb, A', c', rfl, hr.rd⟩))
      · intro a W hE hb hs
        have h54 : a.eval (.tmp 54) = .bool true := hs 14 (by decide)
        refine flowY rfl rfl h54 ?_
        exact val_build 44 _ rfl [] rfl _ built44z ⟨none, 0, rfl, Rd.nil _ _ _⟩
      · intro a W hE hb hs
        have h54 : a.eval (.tmp 54) = .bool true := hs 14 (by decide)
        have h58 : ∃ (A : Option Addr) (c : Nat), (a.eval (.tmp 58)) = .agg (rsV A ([] : List Int).length c 0 0).toArray ∧ Rd W 1 A ([] : List Int).length (([] : List Int).map intV) := hs 18 (by decide)
        have h59 : ∃ (A : Option Addr) (c : Nat), (a.eval (.tmp 59)) = .agg (rsV A ([] : List Int).length c 0 0).toArray ∧ Rd W 1 A ([] : List Int).length (([] : List Int).map intV) := hs 19 (by decide)
        refine flowY rfl rfl h54 ?_
        obtain ⟨A1, c1, e1, r1⟩ := h58
        obtain ⟨A2, c2, e2, r2⟩ := h59
        exact val_call 17 _ _ rfl (by kernel_rfl) [_, _] (by show [a.eval (.tmp 58), a.eval (.tmp 59)] = _; rw [e1, e2]) ((Same_any A1 A2 _ _ c1 c2 _ _ _ _ _ _ W r1 r2).mono (by rintro e W' ⟨rfl, hb⟩; exact ⟨_, rfl, hb, congrArg Value.bool (by decide)⟩))
      · intro a W hE hb hs
        have h54 : a.eval (.tmp 54) = .bool true := hs 14 (by decide)
        have h60 : a.eval (.tmp 60) = .bool true := hs 20 (by decide)
        refine flow0 rfl ?_
        exact val_pick _ _ _ rfl true h54 _ (by rw [if_pos rfl]; exact h60) rfl
      · intro a W hE hb hs
        have h61 : a.eval (.tmp 61) = .bool true := hs 21 (by decide)
        refine flow0 rfl ?_
        exact val_assign _ rfl _ h61 rfl
    · intro f W hbW hT
      have hres : f 3 = .bool true := hT 22 (by decide)
      simp only [putV, List.foldl_cons, List.foldl_nil, Act.put, List.setIfInBounds_toArray, List.set_cons_succ, List.set_cons_zero, Exit.then]
      rw [hres]
      clear hT hres
      have Hend := Lib.hid hbW
      clear hbW
      go_wp2_with fail
      go_meet
      exact ⟨rfl, Hend.out⟩
  case' rest => skip
  obtain ⟨rfl, hb_⟩ := hcut
  obtain ⟨w3, h_⟩ : ∃ v, v = wc := ⟨_, rfl⟩
  subst h_
  replace HG := Lib.hid (HG.out.below hb_ HG.out.lt)
  replace HA := Lib.hid (HA.out.below hb_)
  replace HL := Lib.hid (HL.out.below hb_)
  replace HB := Lib.hid (HB.out.trans (hb_.mono (by have := HB.out.size; have := Hab.out; omega)))
  clear hb_
  go_upto_region 4 with fail
  go_cut [4] from 62 to 80 (fun t4 wx => t4 = .bool true ∧ Below w3.heap.size w3 wx)
  case first =>
    refine wp_region_flow [62, 63, 64, 65, 66, 67, 68, 69, 70, 71, 72, 73, 74, 75, 76, 77, 78, 79, 80, 4] [Spec.is (.agg (grV (some ⟨ab, 0, none⟩) 3 3 (some ⟨bb, 0, none⟩) 4 4).toArray), Spec.is (.agg (ndV (limN 5)).toArray), spSl [1, 3], spSl [1, 3], Spec.is (.bool true), Spec.is (.bool true), Spec.is (.agg (grV (some ⟨ab, 0, none⟩) 3 3 (some ⟨bb, 0, none⟩) 4 4).toArray), Spec.is (.agg (ndV (limN 5)).toArray), spSl [2], spSl [2], Spec.is (.bool true), Spec.is (.bool true), Spec.is (.bool true), Spec.is (.agg (grV (some ⟨ab, 0, none⟩) 3 3 (some ⟨bb, 0, none⟩) 4 4).toArray), Spec.is (.agg (ndV (limN 5)).toArray), spSl [], Spec.is (.int .i64 0), Spec.is (.bool true), Spec.is (.bool true), Spec.is (.bool true)] 113 (by kernel_rfl) rfl (by decide) rfl (by decide) (by kernel_rfl) ?_ ?_
    · refine ⟨?_, ?_, ?_, ?_, ?_, ?_, ?_, ?_, ?_, ?_, ?_, ?_, ?_, ?_, ?_, ?_, ?_, ?_, ?_, ?_, trivial⟩
      · intro a W hE hb hs
        have h1 : a.eval (.tmp 1) = .pointer (some ⟨gb, 0, none⟩) := hb 1 (by decide)
        refine flow0 rfl ?_
        exact val_load_row 33 _ rfl gb 0 h1 (grV (some ⟨ab, 0, none⟩) 3 3 (some ⟨bb, 0, none⟩) 4 4) d33 (Blk.range (HG.out.below (ext_below hE) HG.out.lt)) hd33 hrow33 (by rw [grV_len]; kernel_rfl) rfl
      · intro a W hE hb hs
        refine flow0 rfl ?_
        exact val_call 27 _ _ rfl (by kernel_rfl) [.int .i64 5] rfl ((limits_any 5 W).mono (by rintro e W' ⟨rfl, hb⟩; exact ⟨_, rfl, hb, rfl⟩))
      · intro a W hE hb hs
        have h62 : a.eval (.tmp 62) = .agg (grV (some ⟨ab, 0, none⟩) 3 3 (some ⟨bb, 0, none⟩) 4 4).toArray := hs 0 (by decide)
        have h63 : a.eval (.tmp 63) = .agg (ndV (limN 5)).toArray := hs 1 (by decide)
        refine flow0 rfl ?_
        exact val_call 15 _ _ rfl (by kernel_rfl) [.agg (grV (some ⟨ab, 0, none⟩) 3 3 (some ⟨bb, 0, none⟩) 4 4).toArray, .int .i64 1, .agg (ndV (limN 5)).toArray] (by show [a.eval (.tmp 62), a.eval (.const (.int .i64 1)), a.eval (.tmp 63)] = _; rw [h62, h63]; rfl) ((Reach_any _ 3 3 _ 4 4 vsS lsS 1 (limN 5) W (HA.out.below (ext_below hE)) (HL.out.below (ext_below hE)) vgS).mono (by
          rintro e W' ⟨⟨A', c', bs, rfl, hr, hp⟩, hb⟩
          rw [rS1 hp] at hr ⊢
          exact ⟨_, rfl, hb, A', c', rfl, hr⟩))
      · intro a W hE hb hs
        refine flow0 rfl ?_
        exact val_buildSlice 30 3 2 _ rfl [(0, .int .i64 1), (1, .int .i64 3)] rfl #[.int .i64 1, .int .i64 3] i3 (.int .i64 0) 1 Try.underlying30 hi3 hz3 hs3 (by decide) (by decide) (by kernel_rfl) ⟨some ⟨W.heap.size, 0, none⟩, 2, rfl, lit_rdI W [1, 3] (by decide)⟩
      · intro a W hE hb hs
        have h64 : ∃ (A : Option Addr) (c : Nat), (a.eval (.tmp 64)) = .slice A ([1, 3] : List Int).length c ∧ Rd W 1 A ([1, 3] : List Int).length (([1, 3] : List Int).map intV) := hs 2 (by decide)
        have h65 : ∃ (A : Option Addr) (c : Nat), (a.eval (.tmp 65)) = .slice A ([1, 3] : List Int).length c ∧ Rd W 1 A ([1, 3] : List Int).length (([1, 3] : List Int).map intV) := hs 3 (by decide)
        refine flow0 rfl ?_
        obtain ⟨A1, c1, e1, r1⟩ := h64
        obtain ⟨A2, c2, e2, r2⟩ := h65
        exact val_call 14 _ _ rfl (by kernel_rfl) [_, _] (by show [a.eval (.tmp 64), a.eval (.tmp 65)] = _; rw [e1, e2]) ((Ints_any A1 A2 _ _ c1 c2 _ _ W r1 r2).mono (by rintro e W' ⟨rfl, hb⟩; exact ⟨_, rfl, hb, congrArg Value.bool (by decide)⟩))
      · intro a W hE hb hs
        have h66 : a.eval (.tmp 66) = .bool true := hs 4 (by decide)
        refine flow0 rfl ?_
        exact val_move _ rfl _ h66 rfl
      · intro a W hE hb hs
        have h67 : a.eval (.tmp 67) = .bool true := hs 5 (by decide)
        have h1 : a.eval (.tmp 1) = .pointer (some ⟨gb, 0, none⟩) := hb 1 (by decide)
        refine flowY rfl rfl h67 ?_
        exact val_load_row 33 _ rfl gb 0 h1 (grV (some ⟨ab, 0, none⟩) 3 3 (some ⟨bb, 0, none⟩) 4 4) d33 (Blk.range (HG.out.below (ext_below hE) HG.out.lt)) hd33 hrow33 (by rw [grV_len]; kernel_rfl) rfl
      · intro a W hE hb hs
        have h67 : a.eval (.tmp 67) = .bool true := hs 5 (by decide)
        refine flowY rfl rfl h67 ?_
        exact val_call 27 _ _ rfl (by kernel_rfl) [.int .i64 5] rfl ((limits_any 5 W).mono (by rintro e W' ⟨rfl, hb⟩; exact ⟨_, rfl, hb, rfl⟩))
      · intro a W hE hb hs
        have h67 : a.eval (.tmp 67) = .bool true := hs 5 (by decide)
        have h68 : a.eval (.tmp 68) = .agg (grV (some ⟨ab, 0, none⟩) 3 3 (some ⟨bb, 0, none⟩) 4 4).toArray := hs 6 (by decide)
        have h69 : a.eval (.tmp 69) = .agg (ndV (limN 5)).toArray := hs 7 (by decide)
        refine flowY rfl rfl h67 ?_
        exact val_call 15 _ _ rfl (by kernel_rfl) [.agg (grV (some ⟨ab, 0, none⟩) 3 3 (some ⟨bb, 0, none⟩) 4 4).toArray, .int .i64 2, .agg (ndV (limN 5)).toArray] (by show [a.eval (.tmp 68), a.eval (.const (.int .i64 2)), a.eval (.tmp 69)] = _; rw [h68, h69]; rfl) ((Reach_any _ 3 3 _ 4 4 vsS lsS 2 (limN 5) W (HA.out.below (ext_below hE)) (HL.out.below (ext_below hE)) vgS).mono (by
          rintro e W' ⟨⟨A', c', bs, rfl, hr, hp⟩, hb⟩
          rw [rS2 hp] at hr ⊢
          exact ⟨_, rfl, hb, A', c', rfl, hr⟩))
      · intro a W hE hb hs
        have h67 : a.eval (.tmp 67) = .bool true := hs 5 (by decide)
        refine flowY rfl rfl h67 ?_
        exact val_buildSlice 30 3 1 _ rfl [(0, .int .i64 2)] rfl #[.int .i64 2] i3 (.int .i64 0) 1 Try.underlying30 hi3 hz3 hs3 (by decide) (by decide) (by kernel_rfl) ⟨some ⟨W.heap.size, 0, none⟩, 1, rfl, lit_rdI W [2] (by decide)⟩
      · intro a W hE hb hs
        have h67 : a.eval (.tmp 67) = .bool true := hs 5 (by decide)
        have h70 : ∃ (A : Option Addr) (c : Nat), (a.eval (.tmp 70)) = .slice A ([2] : List Int).length c ∧ Rd W 1 A ([2] : List Int).length (([2] : List Int).map intV) := hs 8 (by decide)
        have h71 : ∃ (A : Option Addr) (c : Nat), (a.eval (.tmp 71)) = .slice A ([2] : List Int).length c ∧ Rd W 1 A ([2] : List Int).length (([2] : List Int).map intV) := hs 9 (by decide)
        refine flowY rfl rfl h67 ?_
        obtain ⟨A1, c1, e1, r1⟩ := h70
        obtain ⟨A2, c2, e2, r2⟩ := h71
        exact val_call 14 _ _ rfl (by kernel_rfl) [_, _] (by show [a.eval (.tmp 70), a.eval (.tmp 71)] = _; rw [e1, e2]) ((Ints_any A1 A2 _ _ c1 c2 _ _ W r1 r2).mono (by rintro e W' ⟨rfl, hb⟩; exact ⟨_, rfl, hb, congrArg Value.bool (by decide)⟩))
      · intro a W hE hb hs
        have h67 : a.eval (.tmp 67) = .bool true := hs 5 (by decide)
        have h72 : a.eval (.tmp 72) = .bool true := hs 10 (by decide)
        refine flow0 rfl ?_
        exact val_pick _ _ _ rfl true h67 _ (by rw [if_pos rfl]; exact h72) rfl
      · intro a W hE hb hs
        have h73 : a.eval (.tmp 73) = .bool true := hs 11 (by decide)
        refine flow0 rfl ?_
        exact val_move _ rfl _ h73 rfl
      · intro a W hE hb hs
        have h74 : a.eval (.tmp 74) = .bool true := hs 12 (by decide)
        have h1 : a.eval (.tmp 1) = .pointer (some ⟨gb, 0, none⟩) := hb 1 (by decide)
        refine flowY rfl rfl h74 ?_
        exact val_load_row 33 _ rfl gb 0 h1 (grV (some ⟨ab, 0, none⟩) 3 3 (some ⟨bb, 0, none⟩) 4 4) d33 (Blk.range (HG.out.below (ext_below hE) HG.out.lt)) hd33 hrow33 (by rw [grV_len]; kernel_rfl) rfl
      · intro a W hE hb hs
        have h74 : a.eval (.tmp 74) = .bool true := hs 12 (by decide)
        refine flowY rfl rfl h74 ?_
        exact val_call 27 _ _ rfl (by kernel_rfl) [.int .i64 5] rfl ((limits_any 5 W).mono (by rintro e W' ⟨rfl, hb⟩; exact ⟨_, rfl, hb, rfl⟩))
      · intro a W hE hb hs
        have h74 : a.eval (.tmp 74) = .bool true := hs 12 (by decide)
        have h75 : a.eval (.tmp 75) = .agg (grV (some ⟨ab, 0, none⟩) 3 3 (some ⟨bb, 0, none⟩) 4 4).toArray := hs 13 (by decide)
        have h76 : a.eval (.tmp 76) = .agg (ndV (limN 5)).toArray := hs 14 (by decide)
        refine flowY rfl rfl h74 ?_
        exact val_call 15 _ _ rfl (by kernel_rfl) [.agg (grV (some ⟨ab, 0, none⟩) 3 3 (some ⟨bb, 0, none⟩) 4 4).toArray, .int .i64 4, .agg (ndV (limN 5)).toArray] (by show [a.eval (.tmp 75), a.eval (.const (.int .i64 4)), a.eval (.tmp 76)] = _; rw [h75, h76]; rfl) ((Reach_any _ 3 3 _ 4 4 vsS lsS 4 (limN 5) W (HA.out.below (ext_below hE)) (HL.out.below (ext_below hE)) vgS).mono (by
          rintro e W' ⟨⟨A', c', bs, rfl, hr, hp⟩, hb⟩
          rw [rS3 hp] at hr ⊢
          exact ⟨_, rfl, hb, A', c', rfl, hr⟩))
      · intro a W hE hb hs
        have h74 : a.eval (.tmp 74) = .bool true := hs 12 (by decide)
        have h77 : ∃ (A : Option Addr) (c : Nat), (a.eval (.tmp 77)) = .slice A ([] : List Int).length c ∧ Rd W 1 A ([] : List Int).length (([] : List Int).map intV) := hs 15 (by decide)
        refine flowY rfl rfl h74 ?_
        obtain ⟨A1, c1, e1, r1⟩ := h77
        exact val_len _ _ _ rfl Try.underlying30 A1 0 c1 e1 rfl
      · intro a W hE hb hs
        have h74 : a.eval (.tmp 74) = .bool true := hs 12 (by decide)
        have h78 : a.eval (.tmp 78) = .int .i64 0 := hs 16 (by decide)
        refine flowY rfl rfl h74 ?_
        exact val_eqI _ _ _ _ rfl 0 0 h78 rfl rfl
      · intro a W hE hb hs
        have h74 : a.eval (.tmp 74) = .bool true := hs 12 (by decide)
        have h79 : a.eval (.tmp 79) = .bool true := hs 17 (by decide)
        refine flow0 rfl ?_
        exact val_pick _ _ _ rfl true h74 _ (by rw [if_pos rfl]; exact h79) rfl
      · intro a W hE hb hs
        have h80 : a.eval (.tmp 80) = .bool true := hs 18 (by decide)
        refine flow0 rfl ?_
        exact val_assign _ rfl _ h80 rfl
    · intro f W hbW hT
      have hres : f 4 = .bool true := hT 19 (by decide)
      simp only [putV, List.foldl_cons, List.foldl_nil, Act.put, List.setIfInBounds_toArray, List.set_cons_succ, List.set_cons_zero, Exit.then]
      rw [hres]
      clear hT hres
      have Hend := Lib.hid hbW
      clear hbW
      go_wp2_with fail
      go_meet
      exact ⟨rfl, Hend.out⟩
  case' rest => skip
  obtain ⟨rfl, hb_⟩ := hcut
  obtain ⟨w4, h_⟩ : ∃ v, v = wc := ⟨_, rfl⟩
  subst h_
  replace HG := Lib.hid (HG.out.below hb_ HG.out.lt)
  replace HA := Lib.hid (HA.out.below hb_)
  replace HL := Lib.hid (HL.out.below hb_)
  replace HB := Lib.hid (HB.out.trans (hb_.mono (by have := HB.out.size; have := Hab.out; omega)))
  clear hb_
  go_upto_region 5 with fail

  have hv1 := Valid_any (some ⟨ab, 0, none⟩) 3 3 (some ⟨bb, 0, none⟩) 4 4 vsS lsS w4 HA.out HL.out
  rw [show validB vsS lsS = true from by decide +kernel] at hv1
  have Hv1 := Lib.hid hv1
  have Hrg := Lib.hid (Blk.range HG.out)
  clear hv1
  go_wp2_with (refine wpList_load_mid_g (by first | rfl | simp [Region.wanted, yielded]) 33 (.tmp 1) rfl gb 0 rfl (grV (some ⟨ab, 0, none⟩) 3 3 (some ⟨bb, 0, none⟩) 4 4) d33 Hrg.out hd33 hrow33 (by rw [grV_len]; kernel_rfl) ?_)
  refine Hv1.out.mono ?_
  rintro e w5 ⟨rfl, hb5⟩
  have HB5 := Lib.hid (HB.out.trans (hb5.mono (by have := HB.out.size; have := Hab.out; omega)))
  clear hb5 Hv1 Hrg HG HA HL HB
  go_wp2_with fail
  have hv2 := Valid_any none 0 0 none 0 0 [] [] w5 (Rd.nil _ _ _) (Rd.nil _ _ _)
  rw [show validB [] [] = true from by decide +kernel] at hv2
  refine hv2.mono ?_
  rintro e w6 ⟨rfl, hb6⟩
  have HB6 := Lib.hid (HB5.out.trans (hb6.mono (by have := HB5.out.size; have := Hab.out; omega)))
  clear hb6 hv2 HB5
  go_wp2_with fail
  have HB7 := Lib.hid (HB6.out.alloc (by have := HB6.out.size; have := Hab.out; omega) (.cells #[.int .i64 2, .int .i64 1] 3))
  have hv3 := Valid_any (some ⟨w6.heap.size, 0, none⟩) 2 2 none 0 0 [2, 1] [] _ (lit_rdI w6 [2, 1] (by decide)) (Rd.nil _ _ _)
  rw [show validB [2, 1] [] = false from by decide +kernel] at hv3
  refine hv3.mono ?_
  rintro e w8 ⟨rfl, hb8⟩
  have HB8 := Lib.hid (HB7.out.trans (hb8.mono (Nat.le_trans (Nat.le_of_eq Hab.out) HB7.out.size)))
  clear hb8 hv3 HB6 HB7
  go_wp2_with fail
  refine (limits_any 5 w8).mono ?_
  rintro e w9 ⟨rfl, hb9⟩
  have HB9 := Lib.hid (HB8.out.trans (hb9.mono (by have := HB8.out.size; have := Hab.out; omega)))
  clear hb9 HB8
  go_wp2_with fail
  have hf1 := Fits_any ⟨0, 0, 5, 0, 0⟩ (limN 5) w9
  rw [show fitsB ⟨0, 0, 5, 0, 0⟩ (limN 5) = true from by decide +kernel] at hf1
  refine hf1.mono ?_
  rintro e w10 ⟨rfl, hb10⟩
  have HB10 := Lib.hid (HB9.out.trans (hb10.mono (by have := HB9.out.size; have := Hab.out; omega)))
  clear hb10 hf1 HB9
  go_wp2_with fail
  refine (limits_any 5 w10).mono ?_
  rintro e w11 ⟨rfl, hb11⟩
  have HB11 := Lib.hid (HB10.out.trans (hb11.mono (by have := HB10.out.size; have := Hab.out; omega)))
  clear hb11 HB10
  go_wp2_with fail
  have hf2 := Fits_any ⟨0, 0, 6, 0, 0⟩ (limN 5) w11
  rw [show fitsB ⟨0, 0, 6, 0, 0⟩ (limN 5) = false from by decide +kernel] at hf2
  refine hf2.mono ?_
  rintro e w12 ⟨rfl, hb12⟩
  have HB12 := Lib.hid (HB11.out.trans (hb12.mono (by have := HB11.out.size; have := Hab.out; omega)))
  clear hb12 hf2 HB11
  go_wp2_with fail
  go_ret
  exact ⟨rfl, by rw [← Hab.out]; exact HB12.out⟩
end Go.Proofs.Ytgelchbbknckcaa
