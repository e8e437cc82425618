/- The reference's block: its variables. -/
import Derived.Test.YtgblkaoioeceiaaDoorRWords
import Derived.Test.YtgblkaoioeceiaaDoorAnyOrder
import Derived.Test.YtgblkaoioeceiaaDoorCheck
namespace Go.Proofs.YtgblkaoioeceiaaDoor
open Go.RowKit Go.Sort

def frB (sv sl p2 p4 v5 v6 v7 v13 v14 v15 : Value) : Act := { tmps := #[sv, sl, p2, undef, p4, v5, v6, v7, undef, undef, undef, undef, sl, v13, v14, v15, undef, undef, undef, undef, undef, undef, undef, undef, undef, undef, undef, undef, undef, undef, undef, undef, undef, undef, undef, undef, undef, undef, undef, undef, undef, undef, undef, undef, undef, undef, undef, undef, undef, undef, undef, undef, undef, undef, undef, undef, undef, undef, undef, undef, undef, undef, undef, undef, undef, undef, undef, undef, undef, undef, undef, undef, undef, undef, undef, undef, undef, undef, undef, undef, undef, undef, undef, undef, undef, undef, undef, undef, undef, undef, undef, undef, undef, undef, undef, undef, undef, undef, undef, undef, undef, undef, undef, undef, undef, undef, undef, undef, undef, undef, undef, undef, undef, undef, undef, undef, undef], defers := [] }
def VB (W : World) (base : Nat) (v : Value) (b : Nat) (t : TypeId) (n : Nat) (fin : Bool) (C0 : Array Value) : Prop :=
  v = .pointer (some ⟨b, 0, none⟩) ∧ base ≤ b ∧ b < W.heap.size ∧ ∃ C, Blk W b t C ∧ C.size = n ∧ (fin = true → C = C0)
theorem VB.below {W W' : World} {base b n : Nat} {v : Value} {t : TypeId} {fin : Bool} {C0 : Array Value} (h : VB W base v b t n fin C0) (hb : Below W.heap.size W W') : VB W' base v b t n fin C0 := by
  obtain ⟨h1, h2, h3, C, h4, h5⟩ := h
  exact ⟨h1, h2, Nat.lt_of_lt_of_le h3 hb.size, C, h4.below hb h3, h5⟩
theorem VB.other {W : World} {base b n g : Nat} {v : Value} {t : TypeId} {fin : Bool} {C0 : Array Value} (h : VB W base v b t n fin C0) (hne : b ≠ g) (cs : Array Value) : VB (W.setRow g cs) base v b t n fin C0 := by
  obtain ⟨h1, h2, h3, C, h4, h5⟩ := h
  exact ⟨h1, h2, by simpa using h3, C, (setRow_other W g b cs hne).trans h4, h5⟩
theorem VB.new {W : World} {base : Nat} (hb : base ≤ W.heap.size) (Z : Array Value) (t : TypeId) (C0 : Array Value) : VB (W.alloc (.cells Z t)) base (.pointer (some ⟨W.heap.size, 0, none⟩)) W.heap.size t Z.size false C0 :=
  ⟨rfl, hb, by simp, Z, Blk.new _ _ _, rfl, fun h => by cases h⟩
theorem VB.set {W : World} {base b n : Nat} {v : Value} {t : TypeId} {fin : Bool} {C0 : Array Value} (h : VB W base v b t n fin C0) (hn : C0.size = n) : VB (W.setRow b C0) base v b t n true C0 := by
  obtain ⟨h1, h2, h3, C, h4, h5⟩ := h
  exact ⟨h1, h2, by simpa using h3, C0, setRow_heap _ _ _ _ _ _ h4, hn, fun _ => rfl⟩

def R1I (w1 : World) (sv sl p2 p4 v15 : Value) (WA NA SA : Array Value) (L : Array Bool) (a : Act) (W : World) : Prop :=
  ∃ (l1 l2 l4 l5 l6 l7 l8 l9 : Bool) (v13 v14 v5 v6 v7 : Value) (b5 b6 b7 : Nat), L = #[true, l1, l2, true, l4, l5, l6, l7, l8, l9] ∧ a = frB sv sl p2 p4 v5 v6 v7 v13 v14 v15 ∧ Below w1.heap.size w1 W ∧
    (l1 = true → v13 = .agg WA) ∧ (l2 = true → v14 = .agg NA) ∧
    (l4 = true → VB W w1.heap.size v5 b5 74 64 l7 WA) ∧ (l5 = true → VB W w1.heap.size v6 b6 74 64 l8 NA) ∧ (l6 = true → VB W w1.heap.size v7 b7 61 8 l9 SA) ∧
    (l4 = true → l5 = true → b5 ≠ b6) ∧ (l4 = true → l6 = true → b5 ≠ b7) ∧ (l5 = true → l6 = true → b6 ≠ b7) ∧ (l7 = true → l4 = true) ∧ (l8 = true → l5 = true) ∧ (l9 = true → l6 = true)

section
variable {P : Program} {ops : Array Oper} {Q : Exit → Act → World → Prop} {o : Oper} {a : Act} {w : World} {K : Act → World → Prop} {E : Prop}
theorem step_alloc0 (hg : o.guard = none) (t : TypeId) (ho : o.op = .alloc t) (Z : Array Value) (z : Value) (i : TypeInfo) (hi : P.info? t = some i) (hz : i.zero = some z) (hc : z.cells = Z)
    (h : K (a.put o.dst (.pointer (some ⟨w.heap.size, 0, none⟩))) (w.alloc (.cells Z t))) : if Region.wanted o (yielded ops a.tmps) = true then Oper.wp P o a w K Q else E := by
  have hw : Region.wanted o (yielded ops a.tmps) = true := by simp [Region.wanted, hg]
  rw [if_pos hw]
  subst hc
  unfold Oper.wp execOp
  simp only [ho, Sem.run_bind, Instr.alloc, zeroValue, typeInfo, newVar, newRow, run_newObj_alloc, Sem.run_pure, Result.andThen_ok]
  simp [hi, hz]
  exact h
theorem step_store_row (hg : o.guard = none) (ty : TypeId) (x y : Operand) (ho : o.op = .store ty x y)
    (g : Nat) (cells : Array Value) (hx : a.eval x = .pointer (some ⟨g, 0, none⟩)) (hy : a.eval y = .agg cells)
    (t : TypeId) (old : Array Value) (hgp : w.heap[g]? = some (.cells old t (0, 0))) (hi : (P.info? ty).map (·.size) = some cells.size)
    (hold : old.size = cells.size) (h1 : cells.all (·.oneCell') = true)
    (h : K (a.put o.dst undef) (w.setRow g cells)) : if Region.wanted o (yielded ops a.tmps) = true then Oper.wp P o a w K Q else E := by
  have hw : Region.wanted o (yielded ops a.tmps) = true := by simp [Region.wanted, hg]
  rw [if_pos hw]
  exact wp_store_row ty x y ho g cells hx hy t old hgp hi hold h1 h
end
def zeros8 : Array Value := (List.replicate 8 (Value.int .u32 0)).toArray
theorem info61 : (Tryd.prog.info? 61).map (fun i => (i.zero, i.size, i.bytes)) = some (some (.agg zeros8), 8, 32) := by kernel_rfl
theorem stArr_one (s : St) : (stArr s).all (·.oneCell') = true := by
  show ([u32V s.a, u32V s.b, u32V s.c, u32V s.d, u32V s.e, u32V s.f, u32V s.g, u32V s.h].toArray).all (·.oneCell') = true
  exact all_oneCell_toArray (fun v hv => by simp at hv; rcases hv with rfl | rfl | rfl | rfl | rfl | rfl | rfl | rfl <;> rfl)
end Go.Proofs.YtgblkaoioeceiaaDoor
