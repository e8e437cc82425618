/- append(append([]T{}, x...), y...) where the slices x and y came in: what is known of the result, of one-cell elements. -/
import Derived.Test.YtgblkaoioeceiaaDoorBase
import Derived.ArgAppend
import Derived.Deep.Onto
import Derived.Deep.RegionLaw
namespace Go.Proofs.YtgblkaoioeceiaaDoor
open Go.RowKit

/-- A slice that is new: empty without room, or a row that lies at or beyond the base. -/
def App (w : World) (base : Nat) (e : TypeId) (v : Value) (n : Nat) (xs : List Value) : Prop := (n = 0 ∧ xs = [] ∧ ∃ a, v = .slice (some a) 0 0) ∨ w.ownsRow base e 1 v n xs

theorem run_append_zero {P : Program} (w : World) (t ty e : TypeId) (i : TypeInfo) (ht : P.underlying t = some (.slice e)) (hi : P.info? e = some i) (a A : Option Addr) (n cap c : Nat) (hn : n ≤ cap) :
    (Builtin.append_ #[t, t] ty #[.slice a n cap, .slice A 0 c]).run P w = .ok (.slice a n cap) w := by
  cases a <;> cases A <;> simp [Builtin.append_, run_underlying ht, sizeOf, typeInfo, hi, Builtin.lenOf, Builtin.firstCells, loadCells, loadCellsFrom, hn, storeCells]

theorem run_app {P : Program} (w : World) (t ty e : TypeId) (i : TypeInfo) (z : Value) (bytes : Nat) (ht : P.underlying t = some (.slice e)) (hi : P.info? e = some i) (hz : i.zero = some z) (hs : i.size = 1) (hby : i.bytes = bytes) (hzs : z.cells.size = 1)
    (base : Nat) (hbase : base ≤ w.heap.size) (v : Value) (n : Nat) (xs : List Value) (h : App w base e v n xs) (A : Option Addr) (m c : Nat) (news : List Value) (hrd : Rd w 1 A m news) (h1 : ∀ u ∈ news, u.oneCell' = true)
    (h63 : n + m ≤ maxLen) (hbytes : (n + m) * bytes ≤ 140737488355328) :
    ∃ v' w', (Builtin.append_ #[t, t] ty #[v, .slice A m c]).run P w = .ok v' w' ∧ App w' base e v' (n + m) (xs ++ news) ∧ Below base w w' := by
  by_cases hm : m = 0
  · subst hm
    have hn : news = [] := List.eq_nil_of_length_eq_zero (by have := hrd.1; omega)
    subst hn
    rw [List.append_nil, Nat.add_zero]
    rcases h with ⟨rfl, rfl, a, rfl⟩ | h
    · exact ⟨_, _, run_append_zero w t ty e i ht hi _ _ _ _ _ (Nat.le_refl _), .inl ⟨rfl, rfl, a, rfl⟩, Below.refl _ _⟩
    · rcases h.2 with ⟨rfl, rfl⟩ | ⟨g, cap, cur, rfl, hb, hg, hnc, hcm, _⟩
      · exact ⟨_, _, run_append_zero w t ty e i ht hi _ _ _ _ _ (Nat.le_refl _), .inr h, Below.refl _ _⟩
      · exact ⟨_, _, run_append_zero w t ty e i ht hi _ _ _ _ _ hnc, .inr h, Below.refl _ _⟩
  · obtain ⟨b, off, rfl, hc⟩ := hrd.2.2 (by omega)
    have hnews : ∀ j u, news[j]? = some u → w.cell? ((⟨b, off, none⟩ : Addr).add j) = some u := fun j u hj => by
      rw [show (⟨b, off, none⟩ : Addr).add j = ⟨b, off + j, none⟩ from by unfold Addr.add; split <;> simp_all]
      exact hc j u hj
    rcases h with ⟨rfl, rfl, a, rfl⟩ | h
    · obtain ⟨v', w', hr, ho, hg⟩ := run_append_arg_grows (P := P) w t ty e i z 1 bytes ht hi hz hs hby hzs (by omega) a 0 0 [] (by simp) (by simp) ⟨b, off, none⟩ m c news hrd.1 hnews (by omega) h63 hbytes
      refine ⟨v', w', hr, .inr (ho.mono hbase), ?_⟩
      exact (Below.refl base w).grown hg hbase (fun k e => by cases e)
    · obtain ⟨v', w', hr, ho, hg, _⟩ := run_append_own (P := P) w base t ty e i z 1 bytes ht hi hz hs hby hzs (by omega) v n xs h ⟨b, off, none⟩ m c news hrd.1 hnews h1 h63 hbytes hbase
      refine ⟨v', w', hr, .inr ho, ?_⟩
      exact (Below.refl base w).grown hg hbase (fun k e => (h.lt k e).1)

/-- .. as one step of a region. -/
theorem step_app {P : Program} {ops : Array Oper} {o : Oper} {a : Act} {w : World} {K : Act → World → Prop} {Q : Exit → Act → World → Prop} {E : Prop}
    (hg : o.guard = none) (s x : Operand) (t : TypeId) (hop : o.op = Op.call { callee := Callee.builtin Builtin.append, args := #[s, x], argTypes := #[t, t] })
    (e : TypeId) (i : TypeInfo) (z : Value) (bytes : Nat) (ht : P.underlying t = some (.slice e)) (hi : P.info? e = some i) (hz : i.zero = some z) (hs : i.size = 1) (hby : i.bytes = bytes) (hzs : z.cells.size = 1)
    (base : Nat) (hbase : base ≤ w.heap.size) (v : Value) (n : Nat) (xs : List Value) (hv : a.eval s = v) (h : App w base e v n xs) (A : Option Addr) (m c : Nat) (news : List Value) (hx : a.eval x = .slice A m c) (hrd : Rd w 1 A m news) (h1 : ∀ u ∈ news, u.oneCell' = true)
    (h63 : n + m ≤ maxLen) (hbytes : (n + m) * bytes ≤ 140737488355328)
    (hK : ∀ v' w', App w' base e v' (n + m) (xs ++ news) → Below base w w' → K (a.put o.dst v') w') :
    if Region.wanted o (yielded ops a.tmps) = true then Oper.wp P o a w K Q else E := by
  have hw : Region.wanted o (yielded ops a.tmps) = true := by simp [Region.wanted, hg]
  rw [if_pos hw]
  obtain ⟨v', w', hr, h2, h3⟩ := run_app (P := P) w t o.type e i z bytes ht hi hz hs hby hzs base hbase v n xs h A m c news hrd h1 h63 hbytes
  unfold Oper.wp execOp
  simp only [hop, resolve, invoke, builtin, Sem.run_bind, Sem.run_pure, Result.andThen_ok, List.map_toArray, List.map_cons, List.map_nil, hv, hx, hr]
  exact hK v' w' h2 h3
/-- A new slice reads as what was appended. -/
theorem App.rd {w : World} {base : Nat} {e : TypeId} {v : Value} {n : Nat} {xs : List Value} (h : App w base e v n xs) : ∃ A c, v = .slice A n c ∧ n ≤ c ∧ Rd w 1 A n xs := by
  rcases h with ⟨rfl, rfl, a, rfl⟩ | h
  · exact ⟨_, _, rfl, Nat.le_refl _, Rd.nil _ _ _⟩
  · rcases h.2 with ⟨rfl, rfl⟩ | ⟨g, cap, cur, rfl, hb, hg, hnc, hcm, _⟩
    · exact ⟨_, _, rfl, Nat.le_refl _, Rd.of_own h⟩
    · exact ⟨_, _, rfl, hnc, Rd.of_own h⟩
theorem App.below {w w' : World} {base b : Nat} {e : TypeId} {v : Value} {n : Nat} {xs : List Value} (h : App w base e v n xs) (hb : Below b w w') (hlt : w.heap.size ≤ b) : App w' base e v n xs := by
  rcases h with h | h
  · exact .inl h
  · exact .inr (h.kept (⟨hb.os, hb.tape, hb.output, hb.size, fun k hk _ => hb.block k (by omega)⟩ : w.grownBy w' none) (by cases v.ownBlock <;> simp))
theorem App.rebase {w : World} {base : Nat} {e : TypeId} {a : Addr} : App w base e (.slice (some a) 0 0) 0 [] := .inl ⟨rfl, rfl, a, rfl⟩
end Go.Proofs.YtgblkaoioeceiaaDoor
