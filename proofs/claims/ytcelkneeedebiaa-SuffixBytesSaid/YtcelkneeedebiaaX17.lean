/- Order's key and its comparison. -/
import Derived.Test.YtcelkneeedebiaaX16
import Derived.Test.YtcelkneeedebiaaFlowD
namespace Go.Proofs.Ytcelkneeedebiaa
open Go.RowKit Go.Sort

def pr2 (a b : Int) : List Value := [.int .i64 a, .int .i64 b]
theorem pr2_one (a b : Int) : (pr2 a b).toArray.all (·.oneCell') = true := by simp [pr2, Value.oneCell']
theorem info41 : (Try.prog.info? 41).map (fun i => (i.zero, i.size, i.bytes)) = some (some (.agg (pr2 0 0).toArray), 2, 16) := by kernel_rfl
theorem size41 (cs : Array Value) (h : cs.size = 2) : (Try.prog.info? 41).map (·.size) = some cs.size := by rw [h]; kernel_rfl
theorem und41 : ∃ d, Try.prog.underlying 41 = some d ∧ d.isRow = true := by
  obtain ⟨d, h1, h2⟩ := Option.map_eq_some_iff.1 (show (Try.prog.underlying 41).map (·.isRow) = some true by kernel_rfl)
  exact ⟨d, h1, h2⟩
theorem built41 (a l : Int) : Try.prog.built 41 [(0, .int .i64 a), (1, .int .i64 l)] = some (pr2 a l).toArray := by kernel_rfl
/-- What the key reads: the width, the ranks' slice, how many. -/
structure KeyW (T9 T5 T3 RB n width : Nat) (r : Nat → Nat) (W : World) : Prop where
  c9 : W.cell? ⟨T9, 0, none⟩ = some (.int .i64 (width : Int))
  c5 : W.cell? ⟨T5, 0, none⟩ = some (.slice (some ⟨RB, 0, none⟩) n n)
  c3 : W.cell? ⟨T3, 0, none⟩ = some (.int .i64 (n : Int))
  cr : ∀ t, t < n → W.cell? ⟨RB, t, none⟩ = some (.int .i64 (r t : Int))
theorem KeyW.below {T9 T5 T3 RB n width : Nat} {r : Nat → Nat} {W W' : World} (h : KeyW T9 T5 T3 RB n width r W) (hb : Below W.heap.size W W') : KeyW T9 T5 T3 RB n width r W' :=
  ⟨cell_below hb h.c9, cell_below hb h.c5, cell_below hb h.c3, fun t ht => cell_below hb (h.cr t ht)⟩
set_option maxRecDepth 100000 in
set_option maxHeartbeats 1000000 in
theorem Key_any (T9 T5 T3 RB n width : Nat) (r : Nat → Nat) (i : Nat) (w : World) (h : KeyW T9 T5 T3 RB n width r w) (hi : i < n) (hn : n ≤ 1000000) (hw : width ≤ 1000000000) :
    Calls Try.prog 22 #[.int .i64 (i : Int), .pointer (some ⟨T9, 0, none⟩), .pointer (some ⟨T5, 0, none⟩), .pointer (some ⟨T3, 0, none⟩)] w fun e w' => e = .returned (.agg (pr2 (r i) (sec n r width i)).toArray) ∧ Below w.heap.size w w' ∧ w.drawn ≤ w'.drawn := by
  obtain ⟨i41, hi41, hz41, _, _⟩ := info_parts info41
  obtain ⟨d41, hd41, hrow41⟩ := und41
  obtain ⟨S, hS⟩ : ∃ S, S = sec n r width i := ⟨_, rfl⟩
  rw [← hS]
  have HS0 := Lib.hid hS
  have H := Lib.hid h
  clear hS h
  go_enter Try.func22, Try.ntmps22
  go_upto_region 1 with fail
  obtain ⟨w1, hw1⟩ : ∃ v, v = w.alloc (.cells #[.int .i64 0, .int .i64 0] 41) := ⟨_, rfl⟩
  obtain ⟨X5, hX5⟩ : ∃ v, v = w.heap.size := ⟨_, rfl⟩
  have hB1 : Below w.heap.size w w1 := by rw [hw1]; exact (Below.refl _ _).alloc (Nat.le_refl _) _
  have HD := Lib.hid (show w.drawn ≤ w1.drawn by rw [hw1]; exact Nat.le_refl _)
  have H5 := Lib.hid (show Blk w1 X5 41 (pr2 0 0).toArray by rw [hw1, hX5]; exact Blk.new _ _ _)
  have HX5 := Lib.hid (show w.heap.size ≤ X5 by omega)
  rw [← hw1, ← hX5]
  have h1 := H.out.below hB1
  have c9 := h1.c9
  have c5 := h1.c5
  have c3 := h1.c3
  have cr := h1.cr i hi
  have HB1 := Lib.hid hB1
  have H1 := Lib.hid h1
  have i1 : (i : Int) < (n : Int) := by omega
  have i0 : (0 : Int) ≤ (i : Int) := by omega
  clear hw1 hX5 hB1 h1
  by_cases h0 : width = 0
  · have HS := Lib.hid (show S = -1 by have e1 := HS0.out; unfold sec at e1; rw [if_pos h0] at e1; exact e1)
    subst h0
    clear HS0
    go_wp2_with (refine wpList_store_row rfl 41 (.tmp 5) (.tmp 14) rfl X5 (pr2 (r i) (-1)).toArray rfl rfl 41 _ H5.out (size41 _ rfl) rfl (pr2_one _ _) ?_)
    refine bodyPost_ret (results_cell_row rfl _ _ X5 41 _ (0, 0) _ rfl (setRow_heap _ _ _ _ _ _ H5.out) hd41 (by cases d41 <;> first | rfl | exact hrow41) (size41 _ rfl)) rfl ⟨by rw [HS.out], Below.setRow HB1.out HX5.out _, HD.out⟩
  · have d0 : decide ((width : Int) = 0) = false := decide_eq_false (by omega)
    have d1 : ((width : Int) == 0) = false := by rw [beq_eq_false_iff_ne]; omega
    have ws : IntKind.i64.wrap ((i : Int) + (width : Int)) = ((i + width : Nat) : Int) := by simp [IntKind.wrap, IntKind.bits, IntKind.signed]; omega
    by_cases h2 : i + width < n
    · have HS := Lib.hid (show S = (r (i + width) : Int) by have e1 := HS0.out; unfold sec at e1; rw [if_neg h0, if_pos h2] at e1; exact e1)
      have cr2 := H1.out.cr (i + width) h2
      have k1 : ((i : Int) + (width : Int)) < (n : Int) := by omega
      have k2 : decide (((i : Int) + (width : Int)) < (n : Int)) = true := decide_eq_true k1
      have k3 : (0 : Int) ≤ ((i : Int) + (width : Int)) := by omega
      have k4 : ((i : Int) + (width : Int)).toNat = i + width := by omega
      clear HS0 h0 H H1
      go_wp2_with (refine wpList_store_row rfl 41 (.tmp 5) (.tmp 31) rfl X5 (pr2 (r i) (r (i + width))).toArray rfl rfl 41 _ H5.out (size41 _ rfl) rfl (pr2_one _ _) ?_)
      refine bodyPost_ret (results_cell_row rfl _ _ X5 41 _ (0, 0) _ rfl (setRow_heap _ _ _ _ _ _ H5.out) hd41 (by cases d41 <;> first | rfl | exact hrow41) (size41 _ rfl)) rfl ⟨by rw [HS.out], Below.setRow HB1.out HX5.out _, HD.out⟩
    · have HS := Lib.hid (show S = -1 by have e1 := HS0.out; unfold sec at e1; rw [if_neg h0, if_neg h2] at e1; exact e1)
      have k2 : decide (((i : Int) + (width : Int)) < (n : Int)) = false := decide_eq_false (by omega)
      clear HS0 h0 H H1
      go_wp2_with (refine wpList_store_row rfl 41 (.tmp 5) (.tmp 31) rfl X5 (pr2 (r i) (-1)).toArray rfl rfl 41 _ H5.out (size41 _ rfl) rfl (pr2_one _ _) ?_)
      refine bodyPost_ret (results_cell_row rfl _ _ X5 41 _ (0, 0) _ rfl (setRow_heap _ _ _ _ _ _ H5.out) hd41 (by cases d41 <;> first | rfl | exact hrow41) (size41 _ rfl)) rfl ⟨by rw [HS.out], Below.setRow HB1.out HX5.out _, HD.out⟩
end Go.Proofs.Ytcelkneeedebiaa
