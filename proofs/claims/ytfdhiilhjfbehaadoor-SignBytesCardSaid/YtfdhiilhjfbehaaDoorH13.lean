/- Blocks that float: a variable's, an empty slice's. -/
import Derived.Test.YtfdhiilhjfbehaaDoorH12
namespace Go.Proofs.YtfdhiilhjfbehaaDoor
section
open Go Go.RowKit Go.Sort
variable {P : Program} {ops : Array Oper} {Q : Exit → Act → World → Prop} {o : Oper}
/-- The block of a variable. -/
abbrev floVar (f d : Nat) (T : TypeId) (Z : Array Value) : Flo := ⟨f, d, T, Z, fun B => .pointer (some ⟨B, 0, none⟩)⟩
/-- The block of an empty slice. -/
abbrev floNil (f d : Nat) (T : TypeId) : Flo := ⟨f, d, T, #[], fun B => .slice (some ⟨B, 0, none⟩) 0 0⟩
theorem flo_var {f d : Nat} {T : TypeId} {Z : Array Value} (hg : o.guard = none) (hd : o.dst = some d) (ho : o.op = .alloc T) (z : Value) (i : TypeInfo) (hi : P.info? T = some i) (hz : i.zero = some z) (hc : z.cells = Z) : FloOk P ops Q o (floVar f d T Z) := by
  intro a W K h
  refine step_alloc0 hg T ho Z z i hi hz hc ?_
  rw [hd]; exact h
theorem flo_nil {f d : Nat} {t T : TypeId} (hg : o.guard = none) (hd : o.dst = some d) (ho : o.op = .buildSlice t 0 #[]) (hr : ∀ w : World, (Instr.buildSlice t 0 #[]).run P w = .ok (.slice (some ⟨w.heap.size, 0, none⟩) 0 0) (w.alloc (.cells #[] T))) : FloOk P ops Q o (floNil f d T) := by
  intro a W K h
  refine step_empty hg t T ho (hr W) ?_
  rw [hd]; exact h
/-- append([]T{}, x...): the empty slice's block lies at or beyond the base. -/
theorem step_appe {a : Act} {w : World} {K : Act → World → Prop} {E : Prop} (hg : o.guard = none) (s x : Operand) (t : TypeId) (hop : o.op = Op.call { callee := Callee.builtin Builtin.append, args := #[s, x], argTypes := #[t, t] })
    (e : TypeId) (i : TypeInfo) (z : Value) (sz bytes : Nat) (ht : P.underlying t = some (.slice e)) (hi : P.info? e = some i) (hz : i.zero = some z) (hs : i.size = sz) (hby : i.bytes = bytes) (hzs : z.cells.size = sz) (hsz : 0 < sz)
    (base B : Nat) (hb : base ≤ B) (hB : Blk w B e #[]) (hv : a.eval s = .slice (some ⟨B, 0, none⟩) 0 0) (A : Option Addr) (m c : Nat) (news : List Value) (hx : a.eval x = .slice A m c) (hrd : Rd w sz A m news)
    (h63 : m ≤ maxLen) (hbytes : m * bytes ≤ 140737488355328)
    (hK : ∀ v' w', AppZ w' base e sz v' m news → Below w.heap.size w w' → (∀ k, v'.ownBlock = some k → ∃ cur, Blk w' k e cur) → K (a.put o.dst v') w') :
    if Region.wanted o (yielded ops a.tmps) = true then Oper.wp P o a w K Q else E := by
  have hw : Region.wanted o (yielded ops a.tmps) = true := by simp [Region.wanted, hg]
  rw [if_pos hw]
  have key : ∃ v' w', (Builtin.append_ #[t, t] o.type #[.slice (some ⟨B, 0, none⟩) 0 0, .slice A m c]).run P w = .ok v' w' ∧ AppZ w' base e sz v' m news ∧ Below w.heap.size w w' ∧ ∀ k, v'.ownBlock = some k → ∃ cur, Blk w' k e cur := by
    by_cases hm : m = 0
    · subst hm
      have hn : news = [] := List.eq_nil_of_length_eq_zero (by have := hrd.1; omega)
      subst hn
      exact ⟨_, _, run_append_zero w t o.type e i ht hi _ _ _ _ _ (Nat.le_refl _), .inl ⟨rfl, rfl, _, rfl, hb, hB.lt⟩, Below.refl _ _, fun k e' => by simp only [Value.ownBlock, Option.some.injEq] at e'; subst e'; exact ⟨_, hB⟩⟩
    · obtain ⟨b, off, rfl, hc⟩ := hrd.2.2 (by omega)
      have hnews : ∀ j u, news[j]? = some u → w.cell? ((⟨b, off, none⟩ : Addr).add j) = some u := fun j u hj => by
        rw [show (⟨b, off, none⟩ : Addr).add j = ⟨b, off + j, none⟩ from by unfold Addr.add; split <;> simp_all]
        exact hc j u hj
      obtain ⟨v', w', hr, ho, hg'⟩ := run_append_arg_grows (P := P) w t o.type e i z sz bytes ht hi hz hs hby hzs hsz ⟨B, 0, none⟩ 0 0 [] (by simp) (by simp) ⟨b, off, none⟩ m c news hrd.1 hnews (by omega) (by omega) (by rw [Nat.zero_add]; exact hbytes)
      rw [Nat.zero_add, List.nil_append] at ho
      refine ⟨v', w', hr, .inr (ho.mono (by have := hB.lt; omega)), (Below.refl _ w).grown hg' (Nat.le_refl _) (fun k e => by cases e), fun k e' => ?_⟩
      rcases ho.2 with ⟨hv', _⟩ | ⟨g, cap, cur, hv', _, hg2, _⟩
      · rw [hv'] at e'; cases e'
      · rw [hv'] at e'
        simp only [Value.ownBlock, Option.some.injEq] at e'
        subst e'
        exact ⟨cur, hg2⟩
  obtain ⟨v', w', hr, h2, h3, h4⟩ := key
  unfold Oper.wp execOp
  simp only [hop, resolve, invoke, builtin, Sem.run_bind, Sem.run_pure, Result.andThen_ok, List.map_toArray, List.map_cons, List.map_nil, hv, hx, hr]
  exact hK v' w' h2 h3 h4
end
end Go.Proofs.YtfdhiilhjfbehaaDoor
