/- Words for memory that the proofs of this seat share: a slice that reads as a list of cells, and what keeps it. -/
import Derived.Test.YtgblkaoioeceiaaDoorRows
import Derived.WalkKit
import Derived.WalkSpells
import Derived.WalkLawsBesides
import Derived.Deep.Draws
import Derived.Deep.QuietTactic
import Derived.BigQuiet
import Derived.Maps.AppendAt
import Derived.Lib.QuietBelow
import Derived.Lib.Hide
import Derived.ChangeKeysEq
namespace Go.Proofs.YtgblkaoioeceiaaDoor
open Go.RowKit

theorem ret_bool {a b : Bool} (h : a = b) : Ending.returned (.bool a) = .returned (.bool b) := by rw [h]
theorem ret_int {k : IntKind} {a b : Int} (h : a = b) : Ending.returned (.int k a) = .returned (.int k b) := by rw [h]

/-- The slice value with address A and length n holds the cells xs, each element sz cells. -/
def Rd (w : World) (sz : Nat) (A : Option Addr) (n : Nat) (xs : List Value) : Prop :=
  xs.length = n * sz ∧ n ≤ 9223372036854775807 ∧ (0 < n → ∃ b off, A = some ⟨b, off, none⟩ ∧ ∀ j u, xs[j]? = some u → w.cell? ⟨b, off + j, none⟩ = some u)

section
variable {w w' : World} {sz n : Nat} {A : Option Addr} {xs : List Value}
theorem Rd.len (h : Rd w sz A n xs) : xs.length = n * sz := h.1
theorem Rd.le (h : Rd w sz A n xs) : n ≤ 9223372036854775807 := h.2.1
theorem Rd.nil (w : World) (sz : Nat) (A : Option Addr) : Rd w sz A 0 [] := ⟨by simp, by omega, fun h => absurd h (by omega)⟩
theorem Rd.keep (h : Rd w sz A n xs) (hk : ∀ p v, w.cell? p = some v → w'.cell? p = some v) : Rd w' sz A n xs :=
  ⟨h.1, h.2.1, fun hn => by
    obtain ⟨b, off, e, hc⟩ := h.2.2 hn
    exact ⟨b, off, e, fun j u hu => hk _ _ (hc j u hu)⟩⟩
theorem Rd.below (h : Rd w sz A n xs) (hb : Below w.heap.size w w') : Rd w' sz A n xs :=
  h.keep fun p _ hp => (hb.cell (World.block_lt_of_cell? w p hp)).trans hp
theorem Rd.drew (h : Rd w sz A n xs) : Rd w.drew sz A n xs := h
theorem Rd.drewN (h : Rd w sz A n xs) (k : Nat) : Rd (w.drewN k) sz A n xs := h
theorem Rd.alloc (h : Rd w sz A n xs) (o : Obj) : Rd (w.alloc o) sz A n xs := h.below ((Below.refl _ _).alloc (Nat.le_refl _) o)
theorem Rd.of_own {base : Nat} {e : TypeId} {c : Nat} (h : w.ownsRow base e sz (.slice A n c) n xs) : Rd w sz A n xs := by
  refine ⟨h.1, ?_, fun hn => ?_⟩
  · rcases h.2 with ⟨hv, rfl⟩ | ⟨g, cap, cur, hv, hb, hg, hnc, hcm, _⟩
    · omega
    · simp only [maxLen] at hcm; omega
  · rcases h.2 with ⟨hv, rfl⟩ | ⟨g, cap, cur, hv, hb, hg, hnc, hcm, _⟩
    · omega
    · have hA : A = some ⟨g, 0, none⟩ := by injection hv
      subst hA
      refine ⟨g, 0, rfl, fun j u hu => ?_⟩
      have := h.cells (g := g) rfl j u hu
      have hadd : (⟨g, 0, none⟩ : Addr).add j = ⟨g, 0 + j, none⟩ := by unfold Addr.add; split <;> simp_all
      rwa [hadd] at this
theorem ownsRow_slice {base : Nat} {e : TypeId} {v : Value} (h : w.ownsRow base e sz v n xs) : ∃ A c, v = .slice A n c := by
  rcases h.2 with ⟨rfl, rfl⟩ | ⟨g, cap, cur, rfl, _⟩
  · exact ⟨_, _, rfl⟩
  · exact ⟨_, _, rfl⟩
end

/-- Cells of one-cell elements: the k-th. -/
theorem Rd.at_ {α : Type} {f : α → Value} {w : World} {n k : Nat} {A : Option Addr} {xs : List α} (h : Rd w 1 A n (xs.map f)) (hk : k < n) :
    ∃ b off x, A = some ⟨b, off, none⟩ ∧ xs[k]? = some x ∧ w.cell? ⟨b, off + k, none⟩ = some (f x) := by
  obtain ⟨b, off, e, hc⟩ := h.2.2 (by omega)
  have hl : k < xs.length := by have := h.1; simp at this; omega
  exact ⟨b, off, xs[k], e, List.getElem?_eq_getElem hl, hc k _ (by simp [hl])⟩
theorem Rd.len1 {α : Type} {f : α → Value} {w : World} {n : Nat} {A : Option Addr} {xs : List α} (h : Rd w 1 A n (xs.map f)) : xs.length = n := by
  have := h.1; simpa using this
/-- Cells of elements of several cells. -/
theorem flat_get {α : Type} {f : α → List Value} {sz : Nat} (hf : ∀ x, (f x).length = sz) : ∀ (xs : List α) (k j : Nat) (x : α), xs[k]? = some x → j < sz → (xs.flatMap f)[k * sz + j]? = (f x)[j]?
  | [], k, j, x, h, _ => by simp at h
  | y :: ys, 0, j, x, h, hj => by
    simp at h; subst h
    simp only [List.flatMap_cons, Nat.zero_mul, Nat.zero_add]
    rw [List.getElem?_append_left (by rw [hf]; exact hj)]
  | y :: ys, k + 1, j, x, h, hj => by
    simp at h
    simp only [List.flatMap_cons]
    rw [List.getElem?_append_right (by rw [hf, Nat.add_mul]; omega), hf]
    rw [show (k + 1) * sz + j - sz = k * sz + j from by rw [Nat.add_mul]; omega]
    exact flat_get hf ys k j x h hj
theorem flat_length {α : Type} {f : α → List Value} {sz : Nat} (hf : ∀ x, (f x).length = sz) (xs : List α) : (xs.flatMap f).length = xs.length * sz := by
  induction xs with
  | nil => simp
  | cons y ys ih => simp [List.flatMap_cons, ih, hf, Nat.add_mul]; omega
theorem Rd.flat_ {α : Type} {f : α → List Value} {sz : Nat} {w : World} {n k : Nat} {A : Option Addr} {xs : List α} (h : Rd w sz A n (xs.flatMap f)) (hf : ∀ x, (f x).length = sz) (hsz : 0 < sz) (hk : k < n) :
    ∃ b off x, A = some ⟨b, off, none⟩ ∧ xs[k]? = some x ∧ ∀ j u, (f x)[j]? = some u → w.cell? ⟨b, off + (k * sz + j), none⟩ = some u := by
  obtain ⟨b, off, e, hc⟩ := h.2.2 (by omega)
  have hl : k < xs.length := by
    have := h.1; rw [flat_length hf] at this
    have := Nat.eq_of_mul_eq_mul_right hsz this
    omega
  refine ⟨b, off, xs[k], e, List.getElem?_eq_getElem hl, fun j u hu => hc _ u ?_⟩
  have hj : j < sz := by rw [← hf xs[k]]; exact (List.getElem?_eq_some_iff.1 hu).1
  rw [flat_get hf xs k j xs[k] (List.getElem?_eq_getElem hl) hj, hu]
theorem Rd.lenf {α : Type} {f : α → List Value} {sz : Nat} {w : World} {n : Nat} {A : Option Addr} {xs : List α} (h : Rd w sz A n (xs.flatMap f)) (hf : ∀ x, (f x).length = sz) (hsz : 0 < sz) : xs.length = n := by
  have := h.1; rw [flat_length hf] at this
  exact Nat.eq_of_mul_eq_mul_right hsz this

/-- A part of a slice of one-cell elements. -/
theorem Rd.part {α : Type} {f : α → Value} {w : World} {n i j b off : Nat} {xs : List α} (h : Rd w 1 (some ⟨b, off, none⟩) n (xs.map f)) (hij : i ≤ j) (hj : j ≤ n) :
    Rd w 1 (some ⟨b, off + i, none⟩) (j - i) (((xs.take j).drop i).map f) := by
  have hl := h.len1
  refine ⟨by simp; omega, by have := h.le; omega, fun hn => ⟨b, off + i, rfl, fun k u hu => ?_⟩⟩
  obtain ⟨b', off', e, hc⟩ := h.2.2 (by omega)
  cases e
  rw [Nat.add_assoc]
  refine hc _ u ?_
  rw [List.getElem?_map, List.getElem?_drop, List.getElem?_take] at hu
  rw [List.getElem?_map]
  split at hu
  · exact hu
  · simp at hu

def byteV (b : UInt8) : Value := .int .u8 (b.toNat : Int)
def intV (i : Int) : Value := .int .i64 i
/-- Two ints: a range, a pair. -/
def twoV (r : Int × Int) : List Value := [.int .i64 r.1, .int .i64 r.2]
theorem twoV_len (r : Int × Int) : (twoV r).length = 2 := rfl

theorem Rd.int_ {w : World} {n k : Nat} {A : Option Addr} {xs : List Int} (h : Rd w 1 A n (xs.map intV)) (hk : k < n) :
    ∃ b off x, A = some ⟨b, off, none⟩ ∧ xs[k]? = some x ∧ w.cell? ⟨b, off + k, none⟩ = some (.int .i64 x) := h.at_ hk
theorem Rd.byte_ {w : World} {n k : Nat} {A : Option Addr} {xs : List UInt8} (h : Rd w 1 A n (xs.map byteV)) (hk : k < n) :
    ∃ b off x, A = some ⟨b, off, none⟩ ∧ xs[k]? = some x ∧ w.cell? ⟨b, off + k, none⟩ = some (.int .u8 (x.toNat : Int)) := h.at_ hk
theorem Rd.two_ {w : World} {n k : Nat} {A : Option Addr} {xs : List (Int × Int)} (h : Rd w 2 A n (xs.flatMap twoV)) (hk : k < n) :
    ∃ b off x y, A = some ⟨b, off, none⟩ ∧ xs[k]? = some (x, y) ∧ w.cell? ⟨b, off + k * 2, none⟩ = some (.int .i64 x) ∧ w.cell? ⟨b, off + k * 2 + 1, none⟩ = some (.int .i64 y) := by
  obtain ⟨b, off, ⟨x, y⟩, e, hx, hc⟩ := h.flat_ twoV_len (by omega) hk
  exact ⟨b, off, x, y, e, hx, by have := hc 0 (.int .i64 x) rfl; simpa using this, by have := hc 1 (.int .i64 y) rfl; simpa [Nat.add_assoc] using this⟩

theorem take_succ_eq {α : Type} {xs ys : List α} {k : Nat} {x y : α} (hx : xs[k]? = some x) (hy : ys[k]? = some y) :
    xs.take (k + 1) = ys.take (k + 1) ↔ xs.take k = ys.take k ∧ x = y := by
  have lx : k < xs.length := (List.getElem?_eq_some_iff.1 hx).1
  have ly : k < ys.length := (List.getElem?_eq_some_iff.1 hy).1
  rw [List.take_add_one, List.take_add_one, hx, hy]
  constructor
  · intro h
    have := List.append_inj h (by simp; omega)
    simpa using this
  · rintro ⟨a, rfl⟩; rw [a]

/-- 'x[i:j]' within the capacity. -/
theorem run_slice_part {P : Program} (T E b off len cap i j : Nat) (hT : P.underlying T = some (.slice E)) (hs : P.cellsOf E = 1) (hij : i ≤ j) (hj : j ≤ cap) (hi : i < cap) (w : World) :
    (Instr.slice T (.slice (some ⟨b, off, none⟩) len cap) (some (.int .i64 (i : Int))) (some (.int .i64 (j : Int))) none).run P w = .ok (.slice (some ⟨b, off + i, none⟩) (j - i) (cap - i)) w := by
  have hE : P.elem T = E := by simp [Program.elem, hT]
  obtain ⟨iE, hi'⟩ : ∃ i, P.info? E = some i := by
    unfold Program.cellsOf at hs
    cases h : P.info? E with
    | none => simp [h] at hs
    | some i => exact ⟨i, rfl⟩
  rw [run_slice_lh (P := P) w T _ len cap (by rw [hE]; exact hT) .i64 .i64 (i : Int) (j : Int) (by omega) (by omega) (by omega), hE, run_sizeOf w hi', hs]
  simp only [Result.andThen_ok, sliced, Int.toNat_natCast, Nat.mul_one, Option.map_some]
  rw [if_neg (by omega)]
  have hadd : (⟨b, off, none⟩ : Addr).add i = ⟨b, off + i, none⟩ := by unfold Addr.add; split <;> simp_all
  rw [hadd]

/-! Equality of two arrays of integers, of two structs of two ints. -/
theorem run_part_int {P : Program} (w : World) (e : TypeId) (k : IntKind) (he : P.underlying e = some (.int k)) (xs : List Int) (j : Nat) (x : Int) (hx : xs[j]? = some x) :
    (part e (xs.map (Value.int k)).toArray j).run P w = .ok (.int k x) w := by
  unfold part
  simp [isAgg, run_underlying he, hx]

theorem run_loop_eq {P : Program} (w : World) (d : Nat) (e : TypeId) (k : IntKind) (he : P.underlying e = some (.int k)) (xs ys : List Int) :
    ∀ (m a : Nat), a + m = xs.length → a + m = ys.length →
    Sem.run P (forIn (List.range' a m) ((none, PUnit.unit) : Option Bool × PUnit) fun i (_ : Option Bool × PUnit) => do
      let a ← part e (xs.map (Value.int k)).toArray (i * 1)
      let b ← part e (ys.map (Value.int k)).toArray (i * 1)
      let r ← Op.equalIn (d + 1) e a b
      if (!r) = true then pure (ForInStep.done (some false, PUnit.unit)) else pure (ForInStep.yield (none, PUnit.unit))) w = .ok (if xs.drop a = ys.drop a then none else some false, PUnit.unit) w
  | 0, a, h1, h2 => by
    simp at h1 h2
    simp [List.range'_zero, List.drop_of_length_le (Nat.le_of_eq h1.symm), List.drop_of_length_le (Nat.le_of_eq h2.symm)]
  | m + 1, a, h1, h2 => by
    have l1 : a < xs.length := by omega
    have l2 : a < ys.length := by omega
    have ih := run_loop_eq w d e k he xs ys m (a + 1) (by omega) (by omega)
    have hd : (xs.drop a = ys.drop a) ↔ (xs[a] = ys[a] ∧ xs.drop (a + 1) = ys.drop (a + 1)) := by
      rw [List.drop_eq_getElem_cons l1, List.drop_eq_getElem_cons l2, List.cons.injEq]
    rw [List.range'_succ, List.forIn_cons]
    simp only [Sem.run_bind, Nat.mul_one, run_part_int w e k he xs a xs[a] (List.getElem?_eq_getElem l1), run_part_int w e k he ys a ys[a] (List.getElem?_eq_getElem l2), Result.andThen_ok, run_equalIn_int w d e k k _ _ he]
    simp only [hd]
    by_cases hh : xs[a] = ys[a]
    · simp only [hh, BEq.rfl, Bool.not_true, Bool.false_eq_true, if_false, Sem.run_pure, Result.andThen_ok, true_and]
      simpa only [Nat.mul_one] using ih
    · simp [hh]

theorem run_equalIn_arr {P : Program} (w : World) (d : Nat) (t e : TypeId) (n : Nat) (k : IntKind) (ht : P.underlying t = some (.array n e)) (he : P.underlying e = some (.int k)) (hs : P.cellsOf e = 1) (xs ys : List Int)
    (hx : xs.length = n) (hy : ys.length = n) : (Op.equalIn (d + 2) t (.agg (xs.map (Value.int k)).toArray) (.agg (ys.map (Value.int k)).toArray)).run P w = .ok (decide (xs = ys)) w := by
  have hl := run_loop_eq w d e k he xs ys n 0 (by omega) (by omega)
  obtain ⟨i, hi⟩ := info_of_underlying he
  rw [Op.equalIn]
  simp only [Sem.run_bind, run_underlying ht, Result.andThen_ok, run_sizeOf w hi, hs]
  rw [Std.Legacy.Range.forIn_eq_forIn_range']
  simp only [Std.Legacy.Range.size, Nat.sub_zero, Nat.add_sub_cancel, Nat.div_one]
  rw [hl]
  by_cases h : xs = ys <;> simp [h]
theorem run_eql_arr {P : Program} (w : World) (t e : TypeId) (n : Nat) (k : IntKind) (ht : P.underlying t = some (.array n e)) (he : P.underlying e = some (.int k)) (hs : P.cellsOf e = 1) (xs ys : List Int)
    (hx : xs.length = n) (hy : ys.length = n) : (binOp .eql t (.agg (xs.map (Value.int k)).toArray) (.agg (ys.map (Value.int k)).toArray)).run P w = .ok (.bool (decide (xs = ys))) w := by
  rw [run_eql_struct, run_equalIn_arr w 9998 t e n k ht he hs xs ys hx hy]; rfl
theorem run_neq_arr {P : Program} (w : World) (t e : TypeId) (n : Nat) (k : IntKind) (ht : P.underlying t = some (.array n e)) (he : P.underlying e = some (.int k)) (hs : P.cellsOf e = 1) (xs ys : List Int)
    (hx : xs.length = n) (hy : ys.length = n) : (binOp .neq t (.agg (xs.map (Value.int k)).toArray) (.agg (ys.map (Value.int k)).toArray)).run P w = .ok (.bool (!decide (xs = ys))) w := by
  rw [run_neq_struct, run_equalIn_arr w 9998 t e n k ht he hs xs ys hx hy]; rfl

end Go.Proofs.YtgblkaoioeceiaaDoor
