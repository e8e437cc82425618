/- The reference of package fetch: Release, Proofs. -/
import Derived.Test.YthlecmmngldodaaDoorF10
namespace Go.Proofs.YthlecmmngldodaaDoor
open Go.RowKit Go.Sort

/-- A release as it is handed over: its version, expiry, size, the number of its chunks, their tree. -/
def relC (v x s n : Int) (tr : Sum32) : List Value := [.int .i64 v, .int .i64 0, .int .i64 x, .int .i64 s] ++ sumC z32 ++ [.int .i64 n] ++ sumC tr ++ [.slice none 0 0, .slice none 0 0]
theorem relC_len (v x s n : Int) (tr : Sum32) : (relC v x s n tr).length = 71 := by simp [relC, sumC_len]
theorem relC_n (v x s n : Int) (tr : Sum32) : (relC v x s n tr)[36]? = some (.int .i64 n) := by
  unfold relC
  rw [List.getElem?_append_left (by simp [sumC_len]), List.getElem?_append_left (by simp [sumC_len]), List.getElem?_append_right (by simp [sumC_len])]
  simp [sumC_len]
theorem relC_t (v x s n : Int) (tr : Sum32) : ∀ j u, (sumC tr)[j]? = some u → (relC v x s n tr)[37 + j]? = some u := fun j u hu => by
  have hj : j < 32 := by rw [← sumC_len tr]; exact (List.getElem?_eq_some_iff.1 hu).1
  unfold relC
  rw [List.getElem?_append_left (by simp [sumC_len]; omega), List.getElem?_append_right (by simp [sumC_len])]
  rw [show 37 + j - ([Value.int .i64 v, .int .i64 0, .int .i64 x, .int .i64 s] ++ sumC z32 ++ [Value.int .i64 n]).length = j from by simp [sumC_len]]
  exact hu
theorem info41 : (Tryd.prog.info? 41).map (fun i => (i.zero, i.size, i.bytes)) = some (some (.agg (relC 0 0 0 0 z32).toArray), 71, 152) := by kernel_rfl
theorem size41 (cs : Array Value) (h : cs.size = 71) : (Tryd.prog.info? 41).map (·.size) = some cs.size := by rw [h]; kernel_rfl
theorem undRel : ∃ d, Tryd.prog.underlying 41 = some d ∧ d.isRow = true := by
  obtain ⟨d, h1, h2⟩ := Option.map_eq_some_iff.1 (show (Tryd.prog.underlying 41).map (·.isRow) = some true by kernel_rfl)
  exact ⟨d, h1, h2⟩
theorem rel_one (v x s n : Int) (tr : Sum32) : (relC v x s n tr).toArray.all (·.oneCell') = true := all_oneCell_toArray fun u hu => by
  unfold relC at hu
  simp only [List.mem_append, List.mem_cons, List.not_mem_nil, or_false] at hu
  rcases hu with (((h | h) | h) | h) | h
  · rcases h with rfl | rfl | rfl | rfl <;> rfl
  · exact oneB _ u h
  · subst h; rfl
  · exact oneB _ u h
  · rcases h with rfl | rfl <;> rfl
set_option maxRecDepth 100000 in
theorem builtRel (n : Int) (tr : Sum32) : Tryd.prog.built 41 [(5, .int .i64 n), (6, .agg (sumC tr).toArray)] = some (relC 0 0 0 n tr).toArray := by
  obtain ⟨l, hl⟩ := tr
  rcases l with _ | ⟨b0, l⟩
  · simp at hl
  rcases l with _ | ⟨b1, l⟩
  · simp at hl
  rcases l with _ | ⟨b2, l⟩
  · simp at hl
  rcases l with _ | ⟨b3, l⟩
  · simp at hl
  rcases l with _ | ⟨b4, l⟩
  · simp at hl
  rcases l with _ | ⟨b5, l⟩
  · simp at hl
  rcases l with _ | ⟨b6, l⟩
  · simp at hl
  rcases l with _ | ⟨b7, l⟩
  · simp at hl
  rcases l with _ | ⟨b8, l⟩
  · simp at hl
  rcases l with _ | ⟨b9, l⟩
  · simp at hl
  rcases l with _ | ⟨b10, l⟩
  · simp at hl
  rcases l with _ | ⟨b11, l⟩
  · simp at hl
  rcases l with _ | ⟨b12, l⟩
  · simp at hl
  rcases l with _ | ⟨b13, l⟩
  · simp at hl
  rcases l with _ | ⟨b14, l⟩
  · simp at hl
  rcases l with _ | ⟨b15, l⟩
  · simp at hl
  rcases l with _ | ⟨b16, l⟩
  · simp at hl
  rcases l with _ | ⟨b17, l⟩
  · simp at hl
  rcases l with _ | ⟨b18, l⟩
  · simp at hl
  rcases l with _ | ⟨b19, l⟩
  · simp at hl
  rcases l with _ | ⟨b20, l⟩
  · simp at hl
  rcases l with _ | ⟨b21, l⟩
  · simp at hl
  rcases l with _ | ⟨b22, l⟩
  · simp at hl
  rcases l with _ | ⟨b23, l⟩
  · simp at hl
  rcases l with _ | ⟨b24, l⟩
  · simp at hl
  rcases l with _ | ⟨b25, l⟩
  · simp at hl
  rcases l with _ | ⟨b26, l⟩
  · simp at hl
  rcases l with _ | ⟨b27, l⟩
  · simp at hl
  rcases l with _ | ⟨b28, l⟩
  · simp at hl
  rcases l with _ | ⟨b29, l⟩
  · simp at hl
  rcases l with _ | ⟨b30, l⟩
  · simp at hl
  rcases l with _ | ⟨b31, l⟩
  · simp at hl
  rcases l with _ | ⟨b32, l⟩
  · kernel_rfl
  · simp at hl
/-- A row is built of two parts. -/
theorem wpList_build2 {P : Program} {ops : Array Oper} {rest : List Oper} {o : Oper} {a : Act} {w : World} {Q : Exit → Act → World → Prop} (hg : o.guard = none) (t : TypeId) (i j : Nat) (x y : Operand) (ho : o.op = .build t #[(i, x), (j, y)]) (vx vy : Value) (hx : a.eval x = vx) (hy : a.eval y = vy) (Z : Array Value) (hZ : P.built t [(i, vx), (j, vy)] = some Z)
    (h : wpList P ops Q rest (a.put o.dst (.agg Z)) w) : wpList P ops Q (o :: rest) a w := by
  refine wpList_plain hg fun K hK => ?_
  have := step_build2 (P := P) (ops := ops) (Q := Q) (E := True) (K := K) (w := w) hg t i j x y ho vx vy hx hy Z hZ (hK _ _ h)
  have hw : Region.wanted o (yielded ops a.tmps) = true := by simp [Region.wanted, hg]
  rwa [if_pos hw] at this
/-- A row is built of three parts. -/
theorem wpList_build3 {P : Program} {ops : Array Oper} {rest : List Oper} {o : Oper} {a : Act} {w : World} {Q : Exit → Act → World → Prop} (hg : o.guard = none) (t : TypeId) (i j k : Nat) (x y z : Operand) (ho : o.op = .build t #[(i, x), (j, y), (k, z)]) (vx vy vz : Value) (hx : a.eval x = vx) (hy : a.eval y = vy) (hz : a.eval z = vz) (Z : Array Value) (hZ : P.built t [(i, vx), (j, vy), (k, vz)] = some Z)
    (h : wpList P ops Q rest (a.put o.dst (.agg Z)) w) : wpList P ops Q (o :: rest) a w := by
  refine wpList_plain hg fun K hK => ?_
  unfold Oper.wp execOp
  simp only [ho, Sem.run_bind]
  rw [show (Array.map (fun (x : Nat × Operand) => (x.fst, a.eval x.snd)) #[(i, x), (j, y), (k, z)]) = #[(i, vx), (j, vy), (k, vz)] from by simp [hx, hy, hz], run_build w t _ Z hZ]
  exact hK _ _ h

set_option maxRecDepth 100000 in
set_option maxHeartbeats 1000000 in
theorem Release_any (A : Option Addr) (len cap : Nat) (cs : List (List UInt8)) (w : World) (hr : Lst w A len cs) (hlen : len ≤ 1000000) (hcs : ∀ c ∈ cs, c.length ≤ 8796093021000) :
    Calls Tryd.prog 17 #[.slice A len cap] w fun e w' => e = .returned (.agg (relC 0 0 0 len (root cs)).toArray) ∧ Below w.heap.size w w' := by
  have Hrt0 := RRoot_any A len cap cs
  obtain ⟨rt, hrt⟩ : ∃ rt, rt = root cs := ⟨_, rfl⟩
  rw [← hrt] at Hrt0 ⊢
  clear hrt
  obtain ⟨i41, hi41, hz41, hs41, hy41⟩ := info_parts info41
  obtain ⟨d41, hd41, hrow41⟩ := undRel
  go_enter Tryd.func17, Tryd.ntmps17
  go_upto_region 1 with (refine wpList_alloc0 rfl 41 rfl (relC 0 0 0 0 z32).toArray _ i41 hi41 hz41 rfl ?_; simp only [Act.put, List.setIfInBounds_toArray, List.set_cons_succ, List.set_cons_zero])
  obtain ⟨w1, hw1⟩ : ∃ w1, w1 = w.alloc (.cells (relC 0 0 0 0 z32).toArray 41) := ⟨_, rfl⟩
  have hB1 : Below w.heap.size w w1 := by rw [hw1]; exact (Below.refl _ _).alloc (Nat.le_refl _) _
  have hO1 : Blk w1 w.heap.size 41 (relC 0 0 0 0 z32).toArray := by rw [hw1]; exact Blk.new _ _ _
  rw [← hw1]
  clear hw1
  have Hrt := Lib.hid (Hrt0 w1 (hr.below hB1) hlen hcs)
  have HB1 := Lib.hid hB1
  have HO1 := Lib.hid hO1
  have hs1 := hO1.lt
  clear hB1 hO1 hr hcs Hrt0
  go_wp2_with fail
  refine Hrt.out.mono ?_
  rintro e w2 ⟨rfl, hb2⟩
  have HO2 := Lib.hid (HO1.out.below hb2 hs1)
  have HB2 := Lib.hid (HB1.out.trans (hb2.mono HB1.out.size))
  rw [show sumV rt.1 = .agg (sumC rt).toArray from rfl]
  clear hb2 Hrt
  go_wp2_with (first | (refine wpList_build2 rfl 41 5 6 (.tmp 4) (.tmp 6) rfl (.int .i64 (len : Int)) (.agg (sumC rt).toArray) rfl rfl _ (builtRel len rt) ?_) | (refine wpList_store_row rfl 41 (.tmp 2) (.tmp 7) rfl w.heap.size (relC 0 0 0 len rt).toArray rfl rfl 41 (relC 0 0 0 0 z32).toArray HO2.out (size41 _ (by simp [relC_len])) (by simp [relC_len]) (rel_one _ _ _ _ _) ?_))
  refine bodyPost_ret (results_cell_row rfl _ _ w.heap.size 41 (relC 0 0 0 len rt).toArray (0, 0) d41 rfl (setRow_heap _ _ _ _ _ _ HO2.out) hd41 (by cases d41 <;> first | rfl | exact hrow41) (size41 _ (by simp [relC_len]))) rfl ⟨rfl, Below.setRow HB2.out (Nat.le_refl _) _⟩
end Go.Proofs.YthlecmmngldodaaDoor
