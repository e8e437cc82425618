/- append to a slice that the call itself made, elements of any number of cells: what is known of the result, and that nothing else has changed. -/
import Derived.Test.YtgblkaoioeceiaaDoorAppBytes
import Derived.Maps.RangeWalk
namespace Go.Proofs.YtgblkaoioeceiaaDoor
open Go.RowKit

/-- A slice that is new: empty without room, or a row that lies at or beyond the base. -/
def AppZ (w : World) (base : Nat) (e : TypeId) (sz : Nat) (v : Value) (n : Nat) (xs : List Value) : Prop :=
  (n = 0 ∧ xs = [] ∧ ∃ a : Addr, v = .slice (some a) 0 0 ∧ base ≤ a.block ∧ a.block < w.heap.size) ∨ w.ownsRow base e sz v n xs

section
variable {w w' : World} {base : Nat} {e : TypeId} {sz : Nat} {v : Value} {n : Nat} {xs : List Value}
theorem AppZ.lt (h : AppZ w base e sz v n xs) : ∀ k, v.ownBlock = some k → base ≤ k ∧ k < w.heap.size := by
  rcases h with ⟨_, _, a, rfl, h1, h2⟩ | h
  · intro k hk
    simp only [Value.ownBlock, Option.some.injEq] at hk
    subst hk
    exact ⟨h1, h2⟩
  · exact h.lt
theorem AppZ.kept {row : Option Nat} (h : AppZ w base e sz v n xs) (hg : w.grownBy w' row) (hne : v.ownBlock = none ∨ v.ownBlock ≠ row) : AppZ w' base e sz v n xs := by
  rcases h with ⟨h1, h2, a, h3, h4, h5⟩ | h
  · exact .inl ⟨h1, h2, a, h3, h4, Nat.lt_of_lt_of_le h5 hg.size⟩
  · exact .inr (h.kept hg hne)
theorem AppZ.alloc (h : AppZ w base e sz v n xs) (o : Obj) : AppZ (w.alloc o) base e sz v n xs :=
  h.kept (World.grownBy_alloc w o none) (by cases v.ownBlock <;> simp)
theorem AppZ.below {b : Nat} (h : AppZ w base e sz v n xs) (hb : Below b w w') (hlt : w.heap.size ≤ b) : AppZ w' base e sz v n xs :=
  h.kept (⟨hb.os, hb.tape, hb.output, hb.size, fun k hk _ => hb.block k (by omega)⟩ : w.grownBy w' none) (by cases v.ownBlock <;> simp)
theorem AppZ.mono {base' : Nat} (h : AppZ w base e sz v n xs) (hb : base' ≤ base) : AppZ w base' e sz v n xs := by
  rcases h with ⟨h1, h2, a, h3, h4, h5⟩ | h
  · exact .inl ⟨h1, h2, a, h3, by omega, h5⟩
  · exact .inr (h.mono hb)
theorem AppZ.rd (h : AppZ w base e sz v n xs) : ∃ A c, v = .slice A n c ∧ n ≤ c ∧ Rd w sz A n xs := by
  rcases h with ⟨rfl, rfl, a, rfl, _⟩ | h
  · exact ⟨_, _, rfl, Nat.le_refl _, Rd.nil _ _ _⟩
  · rcases h.2 with ⟨rfl, rfl⟩ | ⟨g, cap, cur, rfl, hb, hg, hnc, hcm, _⟩
    · exact ⟨_, _, rfl, Nat.le_refl _, Rd.of_own h⟩
    · exact ⟨_, _, rfl, hnc, Rd.of_own h⟩
theorem AppZ.empty (w : World) (hb : base ≤ w.heap.size) (o : Obj) : AppZ (w.alloc o) base e sz (.slice (some ⟨w.heap.size, 0, none⟩) 0 0) 0 [] :=
  .inl ⟨rfl, rfl, _, rfl, hb, by simp⟩
theorem AppZ.nil (w : World) : AppZ w base e sz (.slice .none 0 0) 0 [] := .inr (World.ownsRow_nil _ _ _ _)
end

theorem run_appz {P : Program} (w : World) (t ty e : TypeId) (i : TypeInfo) (z : Value) (sz bytes : Nat) (ht : P.underlying t = some (.slice e)) (hi : P.info? e = some i) (hz : i.zero = some z) (hs : i.size = sz) (hby : i.bytes = bytes) (hzs : z.cells.size = sz) (hsz : 0 < sz)
    (base : Nat) (hbase : base ≤ w.heap.size) (v : Value) (n : Nat) (xs : List Value) (h : AppZ w base e sz v n xs) (A : Option Addr) (m c : Nat) (news : List Value) (hrd : Rd w sz A m news) (h1 : ∀ u ∈ news, u.oneCell' = true)
    (h63 : n + m ≤ maxLen) (hbytes : (n + m) * bytes ≤ 140737488355328) :
    ∃ v' w', (Builtin.append_ #[t, t] ty #[v, .slice A m c]).run P w = .ok v' w' ∧ AppZ w' base e sz v' (n + m) (xs ++ news) ∧ w.grownBy w' v.ownBlock := by
  have hrefl : w.grownBy w v.ownBlock := ⟨rfl, rfl, rfl, Nat.le_refl _, fun _ _ _ => rfl⟩
  by_cases hm : m = 0
  · subst hm
    have hn : news = [] := List.eq_nil_of_length_eq_zero (by have := hrd.1; omega)
    subst hn
    rw [List.append_nil, Nat.add_zero]
    rcases h with ⟨rfl, rfl, a, rfl, hb, hlt⟩ | h
    · exact ⟨_, _, run_append_zero w t ty e i ht hi _ _ _ _ _ (Nat.le_refl _), .inl ⟨rfl, rfl, a, rfl, hb, hlt⟩, hrefl⟩
    · rcases h.2 with ⟨rfl, rfl⟩ | ⟨g, cap, cur, rfl, hb, hg, hnc, hcm, _⟩
      · exact ⟨_, _, run_append_zero w t ty e i ht hi _ _ _ _ _ (Nat.le_refl _), .inr h, hrefl⟩
      · exact ⟨_, _, run_append_zero w t ty e i ht hi _ _ _ _ _ hnc, .inr h, hrefl⟩
  · obtain ⟨b, off, rfl, hc⟩ := hrd.2.2 (by omega)
    have hnews : ∀ j u, news[j]? = some u → w.cell? ((⟨b, off, .none⟩ : Addr).add j) = some u := fun j u hj => by
      rw [show (⟨b, off, .none⟩ : Addr).add j = ⟨b, off + j, .none⟩ from by unfold Addr.add; split <;> simp_all]
      exact hc j u hj
    rcases h with ⟨rfl, rfl, a, rfl, hb, hlt⟩ | h
    · obtain ⟨v', w', hr, ho, hg⟩ := run_append_arg_grows (P := P) w t ty e i z sz bytes ht hi hz hs hby hzs hsz a 0 0 [] (by simp) (by simp) ⟨b, off, .none⟩ m c news hrd.1 hnews (by omega) h63 hbytes
      exact ⟨v', w', hr, .inr (ho.mono hbase), hg.but _⟩
    · obtain ⟨v', w', hr, ho, hg, _⟩ := run_append_own (P := P) w base t ty e i z sz bytes ht hi hz hs hby hzs hsz v n xs h ⟨b, off, .none⟩ m c news hrd.1 hnews h1 h63 hbytes hbase
      exact ⟨v', w', hr, .inr ho, hg⟩

/-- .. as one step of a region. -/
theorem step_appz {P : Program} {ops : Array Oper} {o : Oper} {a : Act} {w : World} {K : Act → World → Prop} {Q : Exit → Act → World → Prop} {E : Prop}
    (hg : o.guard = none) (s x : Operand) (t : TypeId) (hop : o.op = Op.call { callee := Callee.builtin Builtin.append, args := #[s, x], argTypes := #[t, t] })
    (e : TypeId) (i : TypeInfo) (z : Value) (sz bytes : Nat) (ht : P.underlying t = some (.slice e)) (hi : P.info? e = some i) (hz : i.zero = some z) (hs : i.size = sz) (hby : i.bytes = bytes) (hzs : z.cells.size = sz) (hsz : 0 < sz)
    (base : Nat) (hbase : base ≤ w.heap.size) (v : Value) (n : Nat) (xs : List Value) (hv : a.eval s = v) (h : AppZ w base e sz v n xs) (A : Option Addr) (m c : Nat) (news : List Value) (hx : a.eval x = .slice A m c) (hrd : Rd w sz A m news) (h1 : ∀ u ∈ news, u.oneCell' = true)
    (h63 : n + m ≤ maxLen) (hbytes : (n + m) * bytes ≤ 140737488355328)
    (hK : ∀ v' w', AppZ w' base e sz v' (n + m) (xs ++ news) → w.grownBy w' v.ownBlock → K (a.put o.dst v') w') :
    if Region.wanted o (yielded ops a.tmps) = true then Oper.wp P o a w K Q else E := by
  have hw : Region.wanted o (yielded ops a.tmps) = true := by simp [Region.wanted, hg]
  rw [if_pos hw]
  obtain ⟨v', w', hr, h2, h3⟩ := run_appz (P := P) w t o.type e i z sz bytes ht hi hz hs hby hzs hsz base hbase v n xs h A m c news hrd h1 h63 hbytes
  unfold Oper.wp execOp
  simp only [hop, resolve, invoke, builtin, Sem.run_bind, Sem.run_pure, Result.andThen_ok, List.map_toArray, List.map_cons, List.map_nil, hv, hx, hr]
  exact hK v' w' h2 h3
/-- .. as one step of a list. -/
theorem wpList_appz {P : Program} {ops : Array Oper} {rest : List Oper} {o : Oper} {a : Act} {w : World} {Q : Exit → Act → World → Prop}
    (hg : o.guard = none) (s x : Operand) (t : TypeId) (hop : o.op = Op.call { callee := Callee.builtin Builtin.append, args := #[s, x], argTypes := #[t, t] })
    (e : TypeId) (i : TypeInfo) (z : Value) (sz bytes : Nat) (ht : P.underlying t = some (.slice e)) (hi : P.info? e = some i) (hz : i.zero = some z) (hs : i.size = sz) (hby : i.bytes = bytes) (hzs : z.cells.size = sz) (hsz : 0 < sz)
    (base : Nat) (hbase : base ≤ w.heap.size) (v : Value) (n : Nat) (xs : List Value) (hv : a.eval s = v) (h : AppZ w base e sz v n xs) (A : Option Addr) (m c : Nat) (news : List Value) (hx : a.eval x = .slice A m c) (hrd : Rd w sz A m news) (h1 : ∀ u ∈ news, u.oneCell' = true)
    (h63 : n + m ≤ maxLen) (hbytes : (n + m) * bytes ≤ 140737488355328)
    (hK : ∀ v' w', AppZ w' base e sz v' (n + m) (xs ++ news) → w.grownBy w' v.ownBlock → wpList P ops Q rest (a.put o.dst v') w') :
    wpList P ops Q (o :: rest) a w := by
  refine wpList_plain hg fun K hK' => ?_
  obtain ⟨v', w', hr, h2, h3⟩ := run_appz (P := P) w t o.type e i z sz bytes ht hi hz hs hby hzs hsz base hbase v n xs h A m c news hrd h1 h63 hbytes
  unfold Oper.wp execOp
  simp only [hop, resolve, invoke, builtin, Sem.run_bind, Sem.run_pure, Result.andThen_ok, List.map_toArray, List.map_cons, List.map_nil, hv, hx, hr]
  exact hK' _ _ (hK v' w' h2 h3)
end Go.Proofs.YtgblkaoioeceiaaDoor
