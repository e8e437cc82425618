/- Words for memory that the proofs of this seat share: a slice that reads as a list of cells, and what keeps it. Words for a range over a function: what a round keeps, a variable's block, and a body that collects. A region that draws its order of evaluation and holds calls that lay memory: the reads are taken first, in one walk; a call that is then the only operation that may come up is met by its contract; what remains reads, and its calls yield known values, in whatever has grown out of the world behind that call. A region that draws its order of evaluation and holds TWO calls that lay memory, one after the other. A region that draws its order of evaluation: its operations but the last few read or call quietly; the last few, in one forced order, write. One walk, in the order of the text. A region that draws its order of evaluation: a head in whatever order (reads, calls, new memory), and a tail, in one forced order, that waits for the whole head. A region in any order, by what holds at each point of it. append(append([]T{}, x...), y...) where the slices x and y came in: what is known of the result, of one-cell elements. append to a slice that the call itself made, elements of any number of cells: what is known of the result, and that nothing else has changed. -/
import Derived.Test.YteofgkdpknaapaaRows
import Derived.WalkKit
import Derived.WalkSpells
import Derived.WalkLawsBesides
import Derived.Deep.Draws
import Derived.Deep.QuietTactic
import Derived.BigQuiet
import Derived.Maps.AppendAt
import Derived.Lib.QuietBelow
import Derived.Lib.Hide
import Derived.ChangeKeysEq
import Derived.RangeFuncBox
import Derived.RangeFuncLeaves
import Derived.RangeFuncNested
import Derived.StillTailTactics
import Derived.Shelf.Abstract
import Derived.OwnWalkIn
import Derived.TacticsInMore
import Derived.LoopNIn
import Derived.LoopIn
import Derived.OrdersHeld
import Derived.StillTail
import Derived.Deep.Quiet
import Derived.Deep.MidRow
import Derived.ArgAppend
import Derived.Deep.Onto
import Derived.Deep.RegionLaw
import Derived.Maps.RangeWalk
namespace Go.Proofs.Yteofgkdpknaapaa
section
open Go.RowKit

theorem ret_bool {a b : Bool} (h : a = b) : Ending.returned (.bool a) = .returned (.bool b) := by rw [h]
theorem ret_int {k : IntKind} {a b : Int} (h : a = b) : Ending.returned (.int k a) = .returned (.int k b) := by rw [h]

/-- The slice value with address A and length n holds the cells xs, each element sz cells. -/
def Rd (w : World) (sz : Nat) (A : Option Addr) (n : Nat) (xs : List Value) : Prop :=
  xs.length = n * sz ∧ n ≤ 9223372036854775807 ∧ (0 < n → ∃ b off, A = some ⟨b, off, none⟩ ∧ ∀ j u, xs[j]? = some u → w.cell? ⟨b, off + j, none⟩ = some u)

section
variable {w w' : World} {sz n : Nat} {A : Option Addr} {xs : List Value}
theorem Rd.len (h : Rd w sz A n xs) : xs.length = n * sz := h.1
theorem Rd.le (h : Rd w sz A n xs) : n ≤ 9223372036854775807 := h.2.1
theorem Rd.nil (w : World) (sz : Nat) (A : Option Addr) : Rd w sz A 0 [] := ⟨by simp, by omega, fun h => absurd h (by omega)⟩
theorem Rd.keep (h : Rd w sz A n xs) (hk : ∀ p v, w.cell? p = some v → w'.cell? p = some v) : Rd w' sz A n xs :=
  ⟨h.1, h.2.1, fun hn => by
    obtain ⟨b, off, e, hc⟩ := h.2.2 hn
    exact ⟨b, off, e, fun j u hu => hk _ _ (hc j u hu)⟩⟩
theorem Rd.below (h : Rd w sz A n xs) (hb : Below w.heap.size w w') : Rd w' sz A n xs :=
  h.keep fun p _ hp => (hb.cell (World.block_lt_of_cell? w p hp)).trans hp
theorem Rd.drew (h : Rd w sz A n xs) : Rd w.drew sz A n xs := h
theorem Rd.drewN (h : Rd w sz A n xs) (k : Nat) : Rd (w.drewN k) sz A n xs := h
theorem Rd.alloc (h : Rd w sz A n xs) (o : Obj) : Rd (w.alloc o) sz A n xs := h.below ((Below.refl _ _).alloc (Nat.le_refl _) o)
theorem Rd.of_own {base : Nat} {e : TypeId} {c : Nat} (h : w.ownsRow base e sz (.slice A n c) n xs) : Rd w sz A n xs := by
  refine ⟨h.1, ?_, fun hn => ?_⟩
  · rcases h.2 with ⟨hv, rfl⟩ | ⟨g, cap, cur, hv, hb, hg, hnc, hcm, _⟩
    · omega
    · simp only [maxLen] at hcm; omega
  · rcases h.2 with ⟨hv, rfl⟩ | ⟨g, cap, cur, hv, hb, hg, hnc, hcm, _⟩
    · omega
    · have hA : A = some ⟨g, 0, none⟩ := by injection hv
      subst hA
      refine ⟨g, 0, rfl, fun j u hu => ?_⟩
      have := h.cells (g := g) rfl j u hu
      have hadd : (⟨g, 0, none⟩ : Addr).add j = ⟨g, 0 + j, none⟩ := by unfold Addr.add; split <;> simp_all
      rwa [hadd] at this
theorem ownsRow_slice {base : Nat} {e : TypeId} {v : Value} (h : w.ownsRow base e sz v n xs) : ∃ A c, v = .slice A n c := by
  rcases h.2 with ⟨rfl, rfl⟩ | ⟨g, cap, cur, rfl, _⟩
  · exact ⟨_, _, rfl⟩
  · exact ⟨_, _, rfl⟩
end

/-- Cells of one-cell elements: the k-th. -/
theorem Rd.at_ {α : Type} {f : α → Value} {w : World} {n k : Nat} {A : Option Addr} {xs : List α} (h : Rd w 1 A n (xs.map f)) (hk : k < n) :
    ∃ b off x, A = some ⟨b, off, none⟩ ∧ xs[k]? = some x ∧ w.cell? ⟨b, off + k, none⟩ = some (f x) := by
  obtain ⟨b, off, e, hc⟩ := h.2.2 (by omega)
  have hl : k < xs.length := by have := h.1; simp at this; omega
  exact ⟨b, off, xs[k], e, List.getElem?_eq_getElem hl, hc k _ (by simp [hl])⟩
theorem Rd.len1 {α : Type} {f : α → Value} {w : World} {n : Nat} {A : Option Addr} {xs : List α} (h : Rd w 1 A n (xs.map f)) : xs.length = n := by
  have := h.1; simpa using this
/-- Cells of elements of several cells. -/
theorem flat_get {α : Type} {f : α → List Value} {sz : Nat} (hf : ∀ x, (f x).length = sz) : ∀ (xs : List α) (k j : Nat) (x : α), xs[k]? = some x → j < sz → (xs.flatMap f)[k * sz + j]? = (f x)[j]?
  | [], k, j, x, h, _ => by simp at h
  | y :: ys, 0, j, x, h, hj => by
    simp at h; subst h
    simp only [List.flatMap_cons, Nat.zero_mul, Nat.zero_add]
    rw [List.getElem?_append_left (by rw [hf]; exact hj)]
  | y :: ys, k + 1, j, x, h, hj => by
    simp at h
    simp only [List.flatMap_cons]
    rw [List.getElem?_append_right (by rw [hf, Nat.add_mul]; omega), hf]
    rw [show (k + 1) * sz + j - sz = k * sz + j from by rw [Nat.add_mul]; omega]
    exact flat_get hf ys k j x h hj
theorem flat_length {α : Type} {f : α → List Value} {sz : Nat} (hf : ∀ x, (f x).length = sz) (xs : List α) : (xs.flatMap f).length = xs.length * sz := by
  induction xs with
  | nil => simp
  | cons y ys ih => simp [List.flatMap_cons, ih, hf, Nat.add_mul]; omega
theorem Rd.flat_ {α : Type} {f : α → List Value} {sz : Nat} {w : World} {n k : Nat} {A : Option Addr} {xs : List α} (h : Rd w sz A n (xs.flatMap f)) (hf : ∀ x, (f x).length = sz) (hsz : 0 < sz) (hk : k < n) :
    ∃ b off x, A = some ⟨b, off, none⟩ ∧ xs[k]? = some x ∧ ∀ j u, (f x)[j]? = some u → w.cell? ⟨b, off + (k * sz + j), none⟩ = some u := by
  obtain ⟨b, off, e, hc⟩ := h.2.2 (by omega)
  have hl : k < xs.length := by
    have := h.1; rw [flat_length hf] at this
    have := Nat.eq_of_mul_eq_mul_right hsz this
    omega
  refine ⟨b, off, xs[k], e, List.getElem?_eq_getElem hl, fun j u hu => hc _ u ?_⟩
  have hj : j < sz := by rw [← hf xs[k]]; exact (List.getElem?_eq_some_iff.1 hu).1
  rw [flat_get hf xs k j xs[k] (List.getElem?_eq_getElem hl) hj, hu]
theorem Rd.lenf {α : Type} {f : α → List Value} {sz : Nat} {w : World} {n : Nat} {A : Option Addr} {xs : List α} (h : Rd w sz A n (xs.flatMap f)) (hf : ∀ x, (f x).length = sz) (hsz : 0 < sz) : xs.length = n := by
  have := h.1; rw [flat_length hf] at this
  exact Nat.eq_of_mul_eq_mul_right hsz this

/-- A part of a slice of one-cell elements. -/
theorem Rd.part {α : Type} {f : α → Value} {w : World} {n i j b off : Nat} {xs : List α} (h : Rd w 1 (some ⟨b, off, none⟩) n (xs.map f)) (hij : i ≤ j) (hj : j ≤ n) :
    Rd w 1 (some ⟨b, off + i, none⟩) (j - i) (((xs.take j).drop i).map f) := by
  have hl := h.len1
  refine ⟨by simp; omega, by have := h.le; omega, fun hn => ⟨b, off + i, rfl, fun k u hu => ?_⟩⟩
  obtain ⟨b', off', e, hc⟩ := h.2.2 (by omega)
  cases e
  rw [Nat.add_assoc]
  refine hc _ u ?_
  rw [List.getElem?_map, List.getElem?_drop, List.getElem?_take] at hu
  rw [List.getElem?_map]
  split at hu
  · exact hu
  · simp at hu

def byteV (b : UInt8) : Value := .int .u8 (b.toNat : Int)
def intV (i : Int) : Value := .int .i64 i
/-- Two ints: a range, a pair. -/
def twoV (r : Int × Int) : List Value := [.int .i64 r.1, .int .i64 r.2]
theorem twoV_len (r : Int × Int) : (twoV r).length = 2 := rfl

theorem Rd.int_ {w : World} {n k : Nat} {A : Option Addr} {xs : List Int} (h : Rd w 1 A n (xs.map intV)) (hk : k < n) :
    ∃ b off x, A = some ⟨b, off, none⟩ ∧ xs[k]? = some x ∧ w.cell? ⟨b, off + k, none⟩ = some (.int .i64 x) := h.at_ hk
theorem Rd.byte_ {w : World} {n k : Nat} {A : Option Addr} {xs : List UInt8} (h : Rd w 1 A n (xs.map byteV)) (hk : k < n) :
    ∃ b off x, A = some ⟨b, off, none⟩ ∧ xs[k]? = some x ∧ w.cell? ⟨b, off + k, none⟩ = some (.int .u8 (x.toNat : Int)) := h.at_ hk
theorem Rd.two_ {w : World} {n k : Nat} {A : Option Addr} {xs : List (Int × Int)} (h : Rd w 2 A n (xs.flatMap twoV)) (hk : k < n) :
    ∃ b off x y, A = some ⟨b, off, none⟩ ∧ xs[k]? = some (x, y) ∧ w.cell? ⟨b, off + k * 2, none⟩ = some (.int .i64 x) ∧ w.cell? ⟨b, off + k * 2 + 1, none⟩ = some (.int .i64 y) := by
  obtain ⟨b, off, ⟨x, y⟩, e, hx, hc⟩ := h.flat_ twoV_len (by omega) hk
  exact ⟨b, off, x, y, e, hx, by have := hc 0 (.int .i64 x) rfl; simpa using this, by have := hc 1 (.int .i64 y) rfl; simpa [Nat.add_assoc] using this⟩

theorem take_succ_eq {α : Type} {xs ys : List α} {k : Nat} {x y : α} (hx : xs[k]? = some x) (hy : ys[k]? = some y) :
    xs.take (k + 1) = ys.take (k + 1) ↔ xs.take k = ys.take k ∧ x = y := by
  have lx : k < xs.length := (List.getElem?_eq_some_iff.1 hx).1
  have ly : k < ys.length := (List.getElem?_eq_some_iff.1 hy).1
  rw [List.take_add_one, List.take_add_one, hx, hy]
  constructor
  · intro h
    have := List.append_inj h (by simp; omega)
    simpa using this
  · rintro ⟨a, rfl⟩; rw [a]

/-- 'x[i:j]' within the capacity. -/
theorem run_slice_part {P : Program} (T E b off len cap i j : Nat) (hT : P.underlying T = some (.slice E)) (hs : P.cellsOf E = 1) (hij : i ≤ j) (hj : j ≤ cap) (hi : i < cap) (w : World) :
    (Instr.slice T (.slice (some ⟨b, off, none⟩) len cap) (some (.int .i64 (i : Int))) (some (.int .i64 (j : Int))) none).run P w = .ok (.slice (some ⟨b, off + i, none⟩) (j - i) (cap - i)) w := by
  have hE : P.elem T = E := by simp [Program.elem, hT]
  obtain ⟨iE, hi'⟩ : ∃ i, P.info? E = some i := by
    unfold Program.cellsOf at hs
    cases h : P.info? E with
    | none => simp [h] at hs
    | some i => exact ⟨i, rfl⟩
  rw [run_slice_lh (P := P) w T _ len cap (by rw [hE]; exact hT) .i64 .i64 (i : Int) (j : Int) (by omega) (by omega) (by omega), hE, run_sizeOf w hi', hs]
  simp only [Result.andThen_ok, sliced, Int.toNat_natCast, Nat.mul_one, Option.map_some]
  rw [if_neg (by omega)]
  have hadd : (⟨b, off, none⟩ : Addr).add i = ⟨b, off + i, none⟩ := by unfold Addr.add; split <;> simp_all
  rw [hadd]

/-! Equality of two arrays of integers, of two structs of two ints. -/
theorem run_part_int {P : Program} (w : World) (e : TypeId) (k : IntKind) (he : P.underlying e = some (.int k)) (xs : List Int) (j : Nat) (x : Int) (hx : xs[j]? = some x) :
    (part e (xs.map (Value.int k)).toArray j).run P w = .ok (.int k x) w := by
  unfold part
  simp [isAgg, run_underlying he, hx]

theorem run_loop_eq {P : Program} (w : World) (d : Nat) (e : TypeId) (k : IntKind) (he : P.underlying e = some (.int k)) (xs ys : List Int) :
    ∀ (m a : Nat), a + m = xs.length → a + m = ys.length →
    Sem.run P (forIn (List.range' a m) ((none, PUnit.unit) : Option Bool × PUnit) fun i (_ : Option Bool × PUnit) => do
      let a ← part e (xs.map (Value.int k)).toArray (i * 1)
      let b ← part e (ys.map (Value.int k)).toArray (i * 1)
      let r ← Op.equalIn (d + 1) e a b
      if (!r) = true then pure (ForInStep.done (some false, PUnit.unit)) else pure (ForInStep.yield (none, PUnit.unit))) w = .ok (if xs.drop a = ys.drop a then none else some false, PUnit.unit) w
  | 0, a, h1, h2 => by
    simp at h1 h2
    simp [List.range'_zero, List.drop_of_length_le (Nat.le_of_eq h1.symm), List.drop_of_length_le (Nat.le_of_eq h2.symm)]
  | m + 1, a, h1, h2 => by
    have l1 : a < xs.length := by omega
    have l2 : a < ys.length := by omega
    have ih := run_loop_eq w d e k he xs ys m (a + 1) (by omega) (by omega)
    have hd : (xs.drop a = ys.drop a) ↔ (xs[a] = ys[a] ∧ xs.drop (a + 1) = ys.drop (a + 1)) := by
      rw [List.drop_eq_getElem_cons l1, List.drop_eq_getElem_cons l2, List.cons.injEq]
    rw [List.range'_succ, List.forIn_cons]
    simp only [Sem.run_bind, Nat.mul_one, run_part_int w e k he xs a xs[a] (List.getElem?_eq_getElem l1), run_part_int w e k he ys a ys[a] (List.getElem?_eq_getElem l2), Result.andThen_ok, run_equalIn_int w d e k k _ _ he]
    simp only [hd]
    by_cases hh : xs[a] = ys[a]
    · simp only [hh, BEq.rfl, Bool.not_true, Bool.false_eq_true, if_false, Sem.run_pure, Result.andThen_ok, true_and]
      simpa only [Nat.mul_one] using ih
    · simp [hh]

theorem run_equalIn_arr {P : Program} (w : World) (d : Nat) (t e : TypeId) (n : Nat) (k : IntKind) (ht : P.underlying t = some (.array n e)) (he : P.underlying e = some (.int k)) (hs : P.cellsOf e = 1) (xs ys : List Int)
    (hx : xs.length = n) (hy : ys.length = n) : (Op.equalIn (d + 2) t (.agg (xs.map (Value.int k)).toArray) (.agg (ys.map (Value.int k)).toArray)).run P w = .ok (decide (xs = ys)) w := by
  have hl := run_loop_eq w d e k he xs ys n 0 (by omega) (by omega)
  obtain ⟨i, hi⟩ := info_of_underlying he
  rw [Op.equalIn]
  simp only [Sem.run_bind, run_underlying ht, Result.andThen_ok, run_sizeOf w hi, hs]
  rw [Std.Legacy.Range.forIn_eq_forIn_range']
  simp only [Std.Legacy.Range.size, Nat.sub_zero, Nat.add_sub_cancel, Nat.div_one]
  rw [hl]
  by_cases h : xs = ys <;> simp [h]
theorem run_eql_arr {P : Program} (w : World) (t e : TypeId) (n : Nat) (k : IntKind) (ht : P.underlying t = some (.array n e)) (he : P.underlying e = some (.int k)) (hs : P.cellsOf e = 1) (xs ys : List Int)
    (hx : xs.length = n) (hy : ys.length = n) : (binOp .eql t (.agg (xs.map (Value.int k)).toArray) (.agg (ys.map (Value.int k)).toArray)).run P w = .ok (.bool (decide (xs = ys))) w := by
  rw [run_eql_struct, run_equalIn_arr w 9998 t e n k ht he hs xs ys hx hy]; rfl
theorem run_neq_arr {P : Program} (w : World) (t e : TypeId) (n : Nat) (k : IntKind) (ht : P.underlying t = some (.array n e)) (he : P.underlying e = some (.int k)) (hs : P.cellsOf e = 1) (xs ys : List Int)
    (hx : xs.length = n) (hy : ys.length = n) : (binOp .neq t (.agg (xs.map (Value.int k)).toArray) (.agg (ys.map (Value.int k)).toArray)).run P w = .ok (.bool (!decide (xs = ys))) w := by
  rw [run_neq_struct, run_equalIn_arr w 9998 t e n k ht he hs xs ys hx hy]; rfl
end

section
open Go.RowKit

/-- The blocks of S lie as they lay. -/
structure KeptIn (S : Nat → Prop) (w w' : World) : Prop where
  os : w'.os = w.os
  tape : w'.tape = w.tape
  output : w'.output = w.output
  size : w.heap.size ≤ w'.heap.size
  block : ∀ k, S k → w'.heap[k]? = w.heap[k]?

section
variable {S : Nat → Prop} {a b c w w' : World}
theorem KeptIn.refl (S : Nat → Prop) (w : World) : KeptIn S w w := ⟨rfl, rfl, rfl, Nat.le_refl _, fun _ _ => rfl⟩
theorem KeptIn.trans (h : KeptIn S a b) (k : KeptIn S b c) : KeptIn S a c :=
  ⟨k.os.trans h.os, k.tape.trans h.tape, k.output.trans h.output, Nat.le_trans h.size k.size, fun i hi => (k.block i hi).trans (h.block i hi)⟩
theorem KeptIn.mono {S' : Nat → Prop} (h : KeptIn S w w') (hS : ∀ k, S' k → S k) : KeptIn S' w w' := ⟨h.os, h.tape, h.output, h.size, fun k hk => h.block k (hS k hk)⟩
theorem KeptIn.cell (h : KeptIn S w w') {p : Addr} (hp : S p.block) : w'.cell? p = w.cell? p := World.cell?_of_block (w := w) (h.block p.block hp)
theorem KeptIn.of_below {B : Nat} (h : Below B w w') (hS : ∀ k, S k → k < B) : KeptIn S w w' := ⟨h.os, h.tape, h.output, h.size, fun k hk => h.block k (hS k hk)⟩
theorem KeptIn.below {B : Nat} (h : KeptIn S w w') (hS : ∀ k, k < B → S k) : Below B w w' := ⟨h.os, h.tape, h.output, h.size, fun k hk => h.block k (hS k hk)⟩
theorem KeptIn.grown {row : Option Nat} (h : KeptIn S a w) (hg : w.grownBy w' row) (hlt : ∀ k, S k → k < w.heap.size) (hr : ∀ k, row = some k → ¬ S k) : KeptIn S a w' :=
  h.trans ⟨hg.os, hg.tape, hg.output, hg.size, fun k hk => hg.block k (hlt k hk) (fun e => hr k e.symm hk)⟩
theorem KeptIn.alloc (h : KeptIn S a w) (hlt : ∀ k, S k → k < w.heap.size) (o : Obj) : KeptIn S a (w.alloc o) := h.grown (World.grownBy_alloc w o none) hlt (fun k e => by cases e)
theorem KeptIn.setCell (h : KeptIn S a w) (hlt : ∀ k, S k → k < w.heap.size) {B : Nat} (hB : ¬ S B) (v : Value) : KeptIn S a (w.setCell ⟨B, 0, none⟩ v) :=
  h.grown (grownBy_setCell' w B v) hlt (fun k e => by cases e; exact hB)
theorem keptK_t {A B C : World} (h : KeptIn S A B) (k : KeptIn S B C) : KeptIn S A C := h.trans k
theorem keptK_b (hS : ∀ k, S k → k < w.heap.size) (W : World) (l : Nat) (o o' : Obj) (hl : w.heap.size ≤ l) (h : W.heap[l]? = some o) (_ : o.isCells = false) (_ : o.isWalk = false) : KeptIn S W (W.putObj l o') := by
  have hg := grownBy_putObj' W l o'
  have hlt := (Array.getElem?_eq_some_iff.1 h).1
  exact ⟨hg.os, hg.tape, hg.output, hg.size, fun k hk => hg.block k (by have := hS k hk; omega) (fun e => by cases e; have := hS l hk; omega)⟩
theorem ownFrom_keptIn {β : Type} {B : Nat} (hS : ∀ k, S k → k < B) (hB : ∀ k, S k → k < w.heap.size) : OwnFrom B (fun (_ : β) W => KeptIn S w W) :=
  fun _ X Y row hs hg hr => hs.grown hg (fun k hk => Nat.lt_of_lt_of_le (hB k hk) hs.size) (fun k e hk => by have := (hr k e).1; have := hS k hk; omega)
end

/-- Block B holds just these cells. -/
def Blk (W : World) (B : Nat) (t : TypeId) (cs : Array Value) : Prop := W.heap[B]? = some (.cells cs t (0, 0))
section
variable {W W' : World} {B : Nat} {t : TypeId} {cs : Array Value}
theorem Blk.lt (h : Blk W B t cs) : B < W.heap.size := (Array.getElem?_eq_some_iff.1 h).1
theorem Blk.cell (h : Blk W B t cs) (i : Nat) : W.cell? ⟨B, i, none⟩ = cs[i]? := cell_of_row W B i cs t (0, 0) h
theorem Blk.frozen (h : Blk W B t cs) (i : Nat) : W.frozen? ⟨B, i, none⟩ = false := by
  unfold Blk at h
  simp [World.frozen?, h]
theorem Blk.new (W : World) (t : TypeId) (cs : Array Value) : Blk (W.alloc (.cells cs t)) W.heap.size t cs := heap_alloc_new W _
theorem Blk.alloc (h : Blk W B t cs) (o : Obj) : Blk (W.alloc o) B t cs := (Below.heap_alloc W o B h.lt).trans h
theorem Blk.drew (h : Blk W B t cs) : Blk W.drew B t cs := h
theorem Blk.kept {row : Option Nat} (h : Blk W B t cs) (hg : W.grownBy W' row) (hne : some B ≠ row) : Blk W' B t cs := (hg.block B h.lt hne).trans h
theorem Blk.keptIn {S : Nat → Prop} (h : Blk W B t cs) (hk : KeptIn S W W') (hB : S B) : Blk W' B t cs := (hk.block B hB).trans h
theorem Blk.below {n : Nat} (h : Blk W B t cs) (hk : Below n W W') (hB : B < n) : Blk W' B t cs := (hk.block B hB).trans h
theorem blk_own {β : Type} (B : Nat) (t : TypeId) (f : β → Array Value) : Own (fun s W => Blk W B t (f s)) := fun s X Y row hs hg hrow =>
  hs.kept hg (fun e' => by obtain ⟨o, ho, hc⟩ := hrow B e'.symm; rw [show X.heap[B]? = _ from hs] at ho; cases ho; cases hc)
theorem Blk.of_boxed {v : Value} (h : Boxed W B t v) : Blk W B t #[v] := h
end

theorem boxed_keptIn {S : Nat → Prop} {W W' : World} {B : Nat} {t : TypeId} {v : Value} (h : Boxed W B t v) (hk : KeptIn S W W') (hB : S B) : Boxed W' B t v := (hk.block B hB).trans h
theorem Rd.keptIn {S : Nat → Prop} {w w' : World} {sz n : Nat} {A : Option Addr} {xs : List Value} (h : Rd w sz A n xs) (hk : KeptIn S w w') (hS : ∀ b off, 0 < n → A = some ⟨b, off, none⟩ → S b) : Rd w' sz A n xs :=
  ⟨h.1, h.2.1, fun hn => by
    obtain ⟨b, off, e, hc⟩ := h.2.2 hn
    exact ⟨b, off, e, fun j u hu => (hk.cell (p := ⟨b, off + j, none⟩) (hS b off hn e)).trans (hc j u hu)⟩⟩

/-- 'out = append(out, ..)' in a round, the box at B below n₀, the row at or beyond n₀: what the walk owes. -/
theorem boxed_append {W w1 : World} {n₀ B : Nat} {t e : TypeId} {size : Nat} {v v' : Value} {k m : Nat} {xs ys : List Value} {tmp : Obj}
    (hv : Boxed W B t v) (hrow : W.ownsRow n₀ e size v k xs) (hn₀ : n₀ ≤ W.heap.size) (hB : B < n₀)
    (hown' : w1.ownsRow n₀ e size v' m ys) (hgrow : (W.alloc tmp).grownBy w1 v.ownBlock) :
    Boxed w1 B t v ∧ Boxed (w1.setCell ⟨B, 0, none⟩ v') B t v' ∧ (w1.setCell ⟨B, 0, none⟩ v').ownsRow n₀ e size v' m ys ∧ KeepsOthers W (w1.setCell ⟨B, 0, none⟩ v') ∧ KeptIn (fun k => k < n₀ ∧ k ≠ B) W (w1.setCell ⟨B, 0, none⟩ v') := by
  have hne : some B ≠ v.ownBlock := fun e => by have := (hrow.lt B e.symm).1; omega
  have hne' : v'.ownBlock ≠ some B := fun e => by have := (hown'.lt B e).1; omega
  have hv1 : Boxed w1 B t v := (hv.alloc tmp).kept hgrow hne
  refine ⟨hv1, hv1.set v', hown'.kept (grownBy_setCell' w1 B v') (.inr hne'), ?_, ?_⟩
  · refine ((KeepsOthers.alloc W tmp).trans (KeepsOthers.of_grownBy hgrow fun j o ej hj => ?_)).trans (KeepsOthers.setCell _ _ _)
    rcases (hrow.alloc tmp).2 with ⟨rfl, _⟩ | ⟨g, cap, cur, rfl, _, hgb, _⟩
    · simp [Value.ownBlock] at ej
    · obtain rfl : g = j := by simpa [Value.ownBlock] using ej
      rw [hgb] at hj; cases hj; rfl
  · have hs : ∀ k, (k < n₀ ∧ k ≠ B) → k < (W.alloc tmp).heap.size := fun k hk => by simp; omega
    have h1 : KeptIn (fun k => k < n₀ ∧ k ≠ B) W w1 := ((KeptIn.refl _ W).alloc (fun k hk => by omega) tmp).grown hgrow hs (fun k ej hk => by have := (hrow.lt k ej).1; omega)
    exact h1.setCell (fun k hk => by have := h1.size; omega) (by omega) v'

/-- The cells of a new block. -/
theorem cells_new (w : World) (cs : List Value) (t : TypeId) : ∀ j u, cs[j]? = some u → (w.alloc (.cells cs.toArray t)).cell? ((⟨w.heap.size, 0, none⟩ : Addr).add j) = some u := by
  intro j u hj
  have h := (Blk.new w t cs.toArray).cell j
  have hadd : (⟨w.heap.size, 0, none⟩ : Addr).add j = ⟨w.heap.size, j, none⟩ := by unfold Addr.add; split <;> simp_all
  rw [hadd, h]
  simpa using hj

/-! A region in a round: what holds of it outside holds within, where it defers nothing. -/
theorem oper_inRound {l n : Nat} {P : Program} {o : Oper} {a : Act} {w : World} {K : Act → World → Prop} {Q : Exit → Act → World → Prop} (hd : ∀ c, o.op ≠ .defer c) (hout : ¬ LetsOut Q)
    (h : o.wp P a w K Q ∨ (o.asks P a w ∧ LetsOut Q)) : o.wpIn (Fence.wide.inRound l) n P a w K Q := by
  have h' := h.resolve_right (fun h => hout h.2)
  unfold Oper.wpIn
  refine ⟨fun _ _ => trivial, ?_⟩
  rw [Oper.semAt_eq _ _ _ hd]
  unfold Oper.wp at h'
  generalize (execOp a.eval o).run P w = r at *
  cases r with
  | ok x w' =>
    cases x <;> simp only [Oper.upon, Oper.uponIn] at h' ⊢
    case value => exact h'
    case skip => exact h'
    case defer => exact h'
    case enter f args => exact ⟨(fun hn => by cases hn), CallsIn.inRound l (callsIn_wide.2 h')⟩
    case row row args =>
      refine ⟨(fun hn => by cases hn), fun c cs _ => ?_⟩
      obtain ⟨v, w'', hR, hs⟩ := h' c cs
      exact ⟨v, w'', hR, stepsIn_wide.2 hs⟩
  | halt x w' => cases x <;> simp only [Oper.upon, Oper.uponIn] at h' ⊢ <;> exact h'
theorem wpAny_inRound {l n : Nat} {P : Program} {md : Region.Mode} {ops : Array Oper} {Q : Exit → Act → World → Prop} (hd : ∀ (i : Nat) (o : Oper) (c : Call), ops[i]? = some o → o.op ≠ .defer c) (hout : ¬ LetsOut Q) :
    ∀ (fuel : Nat) (listed : Array Bool) (a : Act) (w : World), wpAny P md ops Q fuel listed a w → wpAnyIn (Fence.wide.inRound l) n P md ops Q fuel listed a w
  | 0, _, _, _, h => h
  | fuel + 1, listed, a, w, h => ⟨h.1, fun i hi => by
      have h1 := h.2 i hi
      unfold wpOp at h1
      unfold wpOpIn
      cases ho : ops[i]? with
      | none => simp only [ho] at h1 ⊢; exact wpAny_inRound hd hout fuel _ _ _ h1
      | some o =>
        simp only [ho] at h1 ⊢
        split
        · rename_i hw
          simp only [hw, if_true] at h1
          exact Oper.wpIn_mono (fun a' w' h => wpAny_inRound hd hout fuel _ _ _ h) (oper_inRound (fun c => hd i o c ho) hout h1)
        · rename_i hw
          simp only [hw] at h1
          exact ⟨fun _ _ => trivial, wpAny_inRound hd hout fuel _ _ _ h1⟩⟩
def noDefer (l : List Oper) : Bool := l.all fun o => match o.op with | .defer _ => false | _ => true
theorem noDefer_spec {l : List Oper} (h : noDefer l = true) : ∀ (i : Nat) (o : Oper) (c : Call), l.toArray[i]? = some o → o.op ≠ .defer c := by
  intro i o c ho e
  have hm : o ∈ l := by
    exact List.mem_of_getElem? (by simpa using ho)
  have := List.all_eq_true.1 h o hm
  rw [e] at this
  cases this
theorem round_region_any {l n : Nat} {P : Program} {id : Nat} {ops : List Oper} {Q : Exit → Act → World → Prop} {a : Act} {w : World} (hm : P.follows .mixedOrders = true) (hd : noDefer ops = true) (hout : ¬ LetsOut Q)
    (h : wpAny P .any ops.toArray Q ops.length (Array.replicate ops.length false) a { w with drawn := w.drawn + 1 }) : (Code.region id ops.toArray true).wpIn (Fence.wide.inRound l) n P Q a w :=
  wpIn_region_any hm (wpAny_inRound (noDefer_spec hd) hout _ _ _ _ (by simpa using h))
/-- A region that draws and only reads, in a round: one walk in the text's order. -/
theorem round_quiet_lit {lp n : Nat} {P : Program} {id : Nat} {Q : Exit → Act → World → Prop} {a : Act} {w : World} {l : List Oper} (hm : P.follows .mixedOrders = true) (hd : noDefer l = true) (hB : Region.lexB .any l.toArray = true) (hout : ¬ LetsOut Q)
    (h : wpQuiet P l.toArray (fun w' => ∃ n, w' = w.drewN n) (fun a' => ∀ w', (∃ n, w' = w.drewN n) → Q .normal a' w') l a) : (Code.region id l.toArray true).wpIn (Fence.wide.inRound lp) n P Q a w := by
  simp only [Region.lexB, Bool.and_eq_true] at hB
  refine round_region_any hm hd hout (wpAny_of_quiet (C := fun w' => ∃ n, w' = w.drewN n) (Q := fun a' => ∀ w', (∃ n, w' = w.drewN n) → Q .normal a' w') (fun _ w' hw' h => h w' hw') _ _ _ _ ⟨1, rfl⟩ ?_)
  have := wpAnyQ_lex (C := fun w' => ∃ n, w' = w.drewN n) (md := .any) hB.1 l 0 (Array.replicate l.length false) a (by simp) (by simpa using hB.2) h
  simpa using this
/-- A region that draws, reads, and writes with its last operation, in a round. -/
theorem round_still_tail {lp n : Nat} {P : Program} {id : Nat} {Q : Exit → Act → World → Prop} {a : Act} {w : World} {l : List Oper} (m : Nat) (hm : P.follows .mixedOrders = true) (hd : noDefer l = true) (hB : Region.lexTailB .any l.toArray m = true) (hout : ¬ LetsOut Q)
    (h : wpStill P l.toArray w.drew (fun a' => wpList P l.toArray Q (l.drop m) a' w.drew) (l.take m) a) : (Code.region id l.toArray true).wpIn (Fence.wide.inRound lp) n P Q a w := by
  simp only [Region.lexTailB, Bool.and_eq_true, decide_eq_true_eq] at hB
  obtain ⟨⟨⟨⟨hsel, hn⟩, hs⟩, hc⟩, hlex⟩ := hB
  have hn' : m < l.length := by simpa using hn
  have htl : (l.take m).length = m := by simp; omega
  have hdl : (l.drop m).length = l.toArray.size - m := by simp
  have inv0 : HeadInv .any l.toArray m (Array.replicate l.toArray.size false) :=
    ⟨by simp, fun j oj _ hl => (by rw [getD_replicate_false] at hl; cases hl), fun t _ ht => getD_in (by simpa using ht) (getD_replicate_false _ _)⟩
  have H := wpAnyL_lex (md := .any) (g := l.toArray.size - m) hsel hs hc hn (l.take m) 0 _ a (fun j hj => by
    have hj' : j < m := by rw [htl] at hj; exact hj
    simp [hj']) (by simpa using htl) inv0 (by rw [htl]; exact hlex) h
  refine round_region_any hm hd hout ?_
  have := wpAny_of_head (Q' := Q) (g := l.toArray.size - m) (fun listed a' hL => by
    have := wpAny_of_seq (md := .any) (Q' := Q) (l.drop m) m listed a' { w with drawn := w.drawn + 1 } (fun j => by simp [List.getElem?_drop]) (by rw [hdl]; exact hL.1) hL.2
    rwa [hdl] at this) _ _ _ H
  rw [htl, show m + (l.toArray.size - m) = l.length by simp; omega] at this
  simpa using this
theorem letsOut_then {K : Act → World → Prop} {Q : Exit → Act → World → Prop} (h : ¬ LetsOut Q) : ¬ LetsOut (Exit.then K Q) := fun ⟨a, w, hq⟩ => h ⟨a, w, hq⟩
theorem letsOut_block {id : Nat} {Q : Exit → Act → World → Prop} (h : ¬ LetsOut Q) : ¬ LetsOut (Exit.inBlock id Q) := fun ⟨a, w, hq⟩ => h ⟨a, w, hq⟩
theorem letsOut_own {α : Type} {B : Nat} {Kp : World → World → Prop} {I : List α → World → Prop} {Ix : Code → List α → World → Prop} {xs : List α} {W : World} : ¬ LetsOut (ownPostG B Kp I Ix xs W) := fun ⟨_, _, h⟩ => h
end

section
open Go Go.RowKit Go.Sort

section
variable {P : Program} {ops : Array Oper} {Q : Exit → Act → World → Prop} {md : Region.Mode} {S : World → Prop}

/-- An operation that hands back a value, and calls no Go function. -/
def plainOp (o : Oper) : Bool :=
  match o.op with
  | .move _ => true | .assign _ => true | .pick .. => true | .build .. => true | .load .. => true | .binOp .. => true | .unOp .. => true | .convert .. => true
  | .slice .. => true | .fieldAddr .. => true | .field .. => true | .indexAddr .. => true | .index .. => true | .extract .. => true
  | .call c => match c.callee with | .builtin .len => true | .builtin .cap => true | .builtin .min => true | .builtin .max => true | _ => false
  | _ => false
theorem andThen_value {s : Result Value} {n : Next} {w' : World} (h : (s.andThen fun x w => .ok (.value x) w) = .ok n w') : ∃ v, n = .value v := by
  cases s with
  | ok v w1 => simp only [Result.andThen] at h; cases h; exact ⟨v, rfl⟩
  | halt x w1 => simp only [Result.andThen] at h; cases h
theorem plainOp_value {o : Oper} {e : Operand → Value} {w w' : World} {n : Next} (h : plainOp o = true) (hr : (execOp e o).run P w = .ok n w') : ∃ v, n = .value v := by
  unfold plainOp at h
  unfold execOp at hr
  split at h <;> rename_i ho <;> simp only [ho] at hr
  case h_15 c =>
    split at h <;> rename_i hc <;> simp only [resolve, invoke, builtin, hc, Sem.run_bind, Sem.run_pure, Result.andThen_ok] at hr
    · exact andThen_value hr
    · exact andThen_value hr
    · exact andThen_value hr
    · exact andThen_value hr
    · cases h
  case h_16 => cases h
  case h_3 c a b =>
    rw [Sem.run_bind] at hr
    cases hb : (asBool (e c)).run P w with
    | ok v w1 =>
      rw [hb] at hr
      simp only [Result.andThen_ok, Sem.run_pure] at hr
      cases hr
      exact ⟨_, rfl⟩
    | halt x w1 =>
      rw [hb] at hr
      simp only [Result.andThen] at hr
      cases hr
  all_goals first
    | exact andThen_value hr
    | (simp only [Sem.run_pure] at hr; cases hr; exact ⟨_, rfl⟩)
    | (simp only [Sem.run_bind, Sem.run_pure] at hr; exact andThen_value hr)

/-- What comes up, and what has come up behind it. -/
def setAll (listed : Array Bool) (is : List Nat) : Array Bool := is.foldl (fun l i => l.setIfInBounds i true) listed
/-- Each of these may come up when it is its turn, and nobody who could come before it touches its temporaries. -/
def orderB (md : Region.Mode) (ops : Array Oper) : List Nat → Array Bool → Bool
  | [], _ => true
  | i :: is, listed => (Region.ready md ops listed).contains i && Region.free md ops listed i && orderB md ops is (listed.setIfInBounds i true)
/-- The operations with these numbers. -/
def pickOps (l : List Oper) : List Nat → List Oper
  | [] => []
  | i :: is => match l[i]? with | some o => o :: pickOps l is | none => pickOps l is

theorem yieldsIf_of_quiet {o : Oper} {a : Act} {K : Act → Prop} (hp : plainOp o = true) (_hne : ∃ w, S w) (h : if Region.wanted o (yielded ops a.tmps) then o.quiet P a S K else K (a.put o.dst undef)) :
    ∃ v, YieldsIf P ops S o v a ∧ K (a.put o.dst v) := by
  split at h
  · rename_i hw
    obtain ⟨v, h1, h2⟩ := h
    refine ⟨v, .inl ⟨hw, fun w hS => ?_⟩, h2⟩
    have h3 := h1 w hS
    unfold Oper.quietAt at h3
    cases hr : (execOp a.eval o).run P w with
    | ok n w' =>
      obtain ⟨u, rfl⟩ := plainOp_value hp hr
      rw [hr] at h3
      obtain ⟨rfl, rfl⟩ := h3
      rfl
    | halt x w' =>
      rw [hr] at h3
      exact h3.elim
  · rename_i hw
    exact ⟨undef, .inr ⟨by simpa using hw, rfl⟩, h⟩

/-- **The reads first.** -/
theorem wpAnyH_reads {l : List Oper} {fuel : Nat} (hs : Region.noSelect l.toArray = true) (hQ : ∀ c a d v w, Q (.panic c) (Act.put a d v) w → Q (.panic c) a w) :
    ∀ (is : List Nat) (listed : Array Bool) (a : Act) (w : World), S w → orderB md l.toArray is listed = true → (pickOps l is).all plainOp = true →
      wpQuiet P l.toArray S (fun a1 => wpAnyH P md l.toArray Q S fuel (setAll listed is) a1 w) (pickOps l is) a →
      wpAnyH P md l.toArray Q S (is.length + fuel) listed a w
  | [], listed, a, w, _, _, _, h => by simpa [pickOps, wpQuiet, setAll] using h
  | i :: is, listed, a, w, hS, hB, hp, h => by
    simp only [orderB, Bool.and_eq_true] at hB
    obtain ⟨⟨hr, hf⟩, hB'⟩ := hB
    obtain ⟨o, ho⟩ : ∃ o, l[i]? = some o := by
      obtain ⟨_, o, ho, _⟩ := mem_ready.1 (by simpa using hr)
      exact ⟨o, by simpa using ho⟩
    have hpk : pickOps l (i :: is) = o :: pickOps l is := by rw [pickOps, ho]
    rw [hpk] at h hp
    simp only [List.all_cons, Bool.and_eq_true] at hp
    obtain ⟨v, hy, hK⟩ := yieldsIf_of_quiet hp.1 ⟨w, hS⟩ h
    rw [show (i :: is).length + fuel = (is.length + fuel) + 1 from by simp; omega]
    refine wpAnyH_take (by simpa using ho) hs hf hr (fun c a w => hQ c a _ _ w) hy hS ?_
    exact wpAnyH_reads hs hQ is (listed.setIfInBounds i true) (a.put o.dst v) w hS hB' hp.2 hK

/-- What is met behind an operation that lays memory: the class of the worlds turns. -/
theorem wpAnyH_mono {S' : World → Prop} (hSS : ∀ w, S' w → S w) : ∀ (fuel : Nat) (listed : Array Bool) (a : Act) (w : World), wpAnyH P md ops Q S' fuel listed a w → wpAnyH P md ops Q S fuel listed a w
  | 0, _, _, _, h => h
  | fuel + 1, _, _, _, h => ⟨h.1, fun i hi => wpOp_mono (fun a' w' h' => ⟨hSS _ h'.1, wpAnyH_mono hSS fuel _ a' w' h'.2⟩) (h.2 i hi)⟩

/-- The post of one operation. -/
def Behind (K : Act → World → Prop) (Q : Exit → Act → World → Prop) : Exit → Act → World → Prop
  | .normal, a, w => K a w
  | e, a, w => Q e a w
/-- **An operation that is the only one that may come up.** -/
theorem wpAnyH_one {l : List Oper} {i : Nat} {o : Oper} {fuel : Nat} {listed : Array Bool} {a : Act} {w : World} (hr : Region.ready md l.toArray listed = [i]) (ho : l[i]? = some o)
    (h : ∀ K : Act → World → Prop, (∀ a' w', S w' → wpAnyH P md l.toArray Q S fuel (listed.setIfInBounds i true) a' w' → K a' w') →
      if Region.wanted o (yielded l.toArray a.tmps) = true then Oper.wp P o a w K Q else K (a.put o.dst undef) w) : wpAnyH P md l.toArray Q S (fuel + 1) listed a w := by
  refine wpAnyH_all hr (by simp) fun j hj => ?_
  obtain rfl : j = i := by simpa using hj
  exact wpOp_step (by simpa using ho) fun K' hK => h K' fun a' w' hS' hH => hK _ _ ⟨hS', hH⟩

/-- All have come up, in whatever order, each quiet in the class. -/
theorem wpAnyH_of_quiet {C : World → Prop} {Q1 : Act → Prop} (hCS : ∀ w, C w → S w) (hQ : ∀ a w, C w → Q1 a → Q .normal a w) : ∀ (fuel : Nat) (listed : Array Bool) (a : Act) (w : World), C w →
    wpAnyQ P md ops C Q1 fuel listed a → wpAnyH P md ops Q S fuel listed a w
  | 0, _, _, _, hw, h => ⟨h.1, hQ _ _ hw h.2⟩
  | fuel + 1, _, _, _, hw, h => ⟨fun h0 => hQ _ _ hw (h.1 h0), fun i hi => wpOp_of_qOp hw (fun a' w' hw' h' => ⟨hCS _ hw', wpAnyH_of_quiet hCS hQ fuel _ a' w' hw' h'⟩) (h.2 i hi)⟩
theorem wpAnyQ_order {C : World → Prop} {l : List Oper} {Q1 : Act → Prop} (hs : Region.noSelect l.toArray = true) : ∀ (is : List Nat) (listed : Array Bool) (a : Act),
    orderB md l.toArray is listed = true → Region.ready md l.toArray (setAll listed is) = [] → wpQuiet P l.toArray C Q1 (pickOps l is) a → wpAnyQ P md l.toArray C Q1 is.length listed a
  | [], _, _, _, he, h => ⟨by simpa [setAll] using he, h⟩
  | i :: is, listed, a, hB, he, h => by
    simp only [orderB, Bool.and_eq_true] at hB
    obtain ⟨⟨hr, hf⟩, hB'⟩ := hB
    obtain ⟨o, ho⟩ : ∃ o, l[i]? = some o := by
      obtain ⟨_, o, ho, _⟩ := mem_ready.1 (by simpa using hr)
      exact ⟨o, by simpa using ho⟩
    have h0 : l.toArray[i]? = some o := by simpa using ho
    have hpk : pickOps l (i :: is) = o :: pickOps l is := by rw [pickOps, ho]
    rw [hpk] at h
    have hst : qOp P l.toArray C i (wpQuiet P l.toArray C Q1 (pickOps l is)) a := by unfold qOp; simp only [h0]; exact h
    obtain ⟨v, hy, hK⟩ := yieldsIn_of_qOp h0 hst
    exact wpAnyQ_first h0 (Region.noSelect_spec hs) is.length listed a (Region.free_spec h0 hf) (by simpa using hr) hy
      (wpAnyQ_order hs is _ _ hB' he hK)
/-- **The rest reads, and its calls yield known values.** -/
theorem wpAnyH_rest {C : World → Prop} {l : List Oper} {is : List Nat} {listed : Array Bool} {a : Act} {w : World} (hs : Region.noSelect l.toArray = true) (hB : orderB md l.toArray is listed = true) (he : Region.ready md l.toArray (setAll listed is) = [])
    (hCS : ∀ w, C w → S w) (hw : C w) (h : wpQuiet P l.toArray C (fun a' => ∀ w', C w' → Q .normal a' w') (pickOps l is) a) : wpAnyH P md l.toArray Q S is.length listed a w :=
  wpAnyH_of_quiet hCS (fun _ _ hw h => h _ hw) _ _ _ _ hw (wpAnyQ_order hs is listed a hB he h)

/-- What has grown out of a world. -/
abbrev Ext (w : World) : World → Prop := fun w' => ∃ p : Regrown, w' = grow (redrawn w p.d) p.os
theorem ext_refl (w : World) : Ext w w := regrown_of_below (Below.refl _ _)
theorem ext_below {w w' : World} (h : Ext w w') : Below w.heap.size w w' := by obtain ⟨p, rfl⟩ := h; exact below_regrown w p.d p.os
theorem ext_drew {w w' : World} (h : Ext w w') : Ext w w'.drew := regrown_of_below (ext_below h).drew
theorem ext_of {w w' : World} (h : Below w.heap.size w w') : Ext w w' := regrown_of_below h
theorem ext_trans {w w1 w' : World} (h : Ext w w1) (h' : Ext w1 w') : Ext w w' := regrown_of_below ((ext_below h).trans ((ext_below h').mono (ext_below h).size))

theorem wpQuiet_mono' {C : World → Prop} {Q1 Q2 : Act → Prop} (h : ∀ a, Q1 a → Q2 a) : ∀ (l : List Oper) (a : Act), wpQuiet P ops C Q1 l a → wpQuiet P ops C Q2 l a
  | [], a, hh => h a hh
  | o :: l, a, hh => by
    unfold wpQuiet at *
    split at hh
    · rename_i hw
      rw [if_pos hw]
      exact Oper.quiet_mono (fun a' => wpQuiet_mono' h l a') hh
    · rename_i hw
      rw [if_neg hw]
      exact wpQuiet_mono' h l _ hh

/-- **THE BEGINNING**, the reads, ONE call that lays memory, and the rest. -/
theorem wp_region_mix {id : Nat} {Q : Exit → Act → World → Prop} {a : Act} {w : World} {l : List Oper} (is1 : List Nat) (i : Nat) (is2 : List Nat) (o : Oper) (ho : l[i]? = some o) (hm : P.follows .mixedOrders = true)
    (hs : Region.noSelect l.toArray = true) (hQ : ∀ c a d v w, Q (.panic c) (Act.put a d v) w → Q (.panic c) a w)
    (hB1 : orderB .any l.toArray is1 (Array.replicate l.length false) = true) (hp : (pickOps l is1).all plainOp = true)
    (hr : Region.ready .any l.toArray (setAll (Array.replicate l.length false) is1) = [i])
    (hB2 : orderB .any l.toArray is2 ((setAll (Array.replicate l.length false) is1).setIfInBounds i true) = true)
    (he : Region.ready .any l.toArray (setAll ((setAll (Array.replicate l.length false) is1).setIfInBounds i true) is2) = [])
    (hlen : is1.length + (is2.length + 1) = l.length)
    (h : wpQuiet P l.toArray (Ext w) (fun a1 => ∀ K : Act → World → Prop,
        (∀ a' w', Ext w w' → wpQuiet P l.toArray (Ext w') (fun a3 => ∀ w3, Ext w' w3 → Q .normal a3 w3) (pickOps l is2) a' → K a' w') →
        if Region.wanted o (yielded l.toArray a1.tmps) = true then Oper.wp P o a1 w.drew K Q else K (a1.put o.dst undef) w.drew) (pickOps l is1) a) :
    (Code.region id l.toArray true).wp P Q a w := by
  refine wp_region_held (S := Ext w) hm ?_
  have key : wpAnyH P .any l.toArray Q (Ext w) (is1.length + (is2.length + 1)) (Array.replicate l.length false) a w.drew := by
    refine wpAnyH_reads hs hQ is1 _ a w.drew (ext_drew (ext_refl w)) hB1 hp ?_
    refine wpQuiet_mono' ?_ (pickOps l is1) a h
    intro a1 h1
    refine wpAnyH_one hr ho fun K hK => h1 K fun a' w' hw' hq => hK a' w' hw' ?_
    exact wpAnyH_rest hs hB2 he (fun w3 h3 => ext_trans hw' h3) (ext_refl w') hq
  rw [hlen] at key
  simpa using key
end
end

section
open Go Go.RowKit Go.Sort

/-- The reads, two calls that lay memory, and the rest. -/
theorem wp_region_mix2 {P : Program} {id : Nat} {Q : Exit → Act → World → Prop} {a : Act} {w : World} {l : List Oper} (is1 : List Nat) (i j : Nat) (is2 : List Nat) (o o2 : Oper) (ho : l[i]? = some o) (ho2 : l[j]? = some o2) (hm : P.follows .mixedOrders = true)
    (hs : Region.noSelect l.toArray = true) (hQ : ∀ c a d v w, Q (.panic c) (Act.put a d v) w → Q (.panic c) a w)
    (hB1 : orderB .any l.toArray is1 (Array.replicate l.length false) = true) (hp : (pickOps l is1).all plainOp = true)
    (hr : Region.ready .any l.toArray (setAll (Array.replicate l.length false) is1) = [i])
    (hr2 : Region.ready .any l.toArray ((setAll (Array.replicate l.length false) is1).setIfInBounds i true) = [j])
    (hB2 : orderB .any l.toArray is2 (((setAll (Array.replicate l.length false) is1).setIfInBounds i true).setIfInBounds j true) = true)
    (he : Region.ready .any l.toArray (setAll (((setAll (Array.replicate l.length false) is1).setIfInBounds i true).setIfInBounds j true) is2) = [])
    (hlen : is1.length + ((is2.length + 1) + 1) = l.length)
    (h : wpQuiet P l.toArray (Ext w) (fun a1 => ∀ K : Act → World → Prop,
        (∀ a' w', Ext w w' → (∀ K2 : Act → World → Prop, (∀ a'' w'', Ext w' w'' → wpQuiet P l.toArray (Ext w'') (fun a3 => ∀ w3, Ext w'' w3 → Q .normal a3 w3) (pickOps l is2) a'' → K2 a'' w'') →
          if Region.wanted o2 (yielded l.toArray a'.tmps) = true then Oper.wp P o2 a' w' K2 Q else K2 (a'.put o2.dst undef) w') → K a' w') →
        if Region.wanted o (yielded l.toArray a1.tmps) = true then Oper.wp P o a1 w.drew K Q else K (a1.put o.dst undef) w.drew) (pickOps l is1) a) :
    (Code.region id l.toArray true).wp P Q a w := by
  refine wp_region_held (S := Ext w) hm ?_
  have key : wpAnyH P .any l.toArray Q (Ext w) (is1.length + ((is2.length + 1) + 1)) (Array.replicate l.length false) a w.drew := by
    refine wpAnyH_reads hs hQ is1 _ a w.drew (ext_drew (ext_refl w)) hB1 hp ?_
    refine wpQuiet_mono' ?_ (pickOps l is1) a h
    intro a1 h1
    refine wpAnyH_one hr ho fun K hK => h1 K fun a' w' hw' hq => hK a' w' hw' ?_
    refine wpAnyH_one hr2 ho2 fun K2 hK2 => hq K2 fun a'' w'' hw'' hq2 => hK2 a'' w'' (ext_trans hw' hw'') ?_
    exact wpAnyH_rest hs hB2 he (fun w3 h3 => ext_trans (ext_trans hw' hw'') h3) (ext_refl w'') hq2
  rw [hlen] at key
  simpa using key

section
variable {P : Program} {Q : Exit → Act → World → Prop} {md : Region.Mode} {S : World → Prop}
/-- The frame behind a name. -/
theorem wpAnyH_abs {ops : Array Oper} {fuel : Nat} {listed : Array Bool} {a : Act} {w : World} (h : ∀ A : Act, A = a → wpAnyH P md ops Q S fuel listed A w) : wpAnyH P md ops Q S fuel listed a w := h a rfl
/-- Two operations that may come up. -/
theorem wpAnyH_two {l : List Oper} {i j : Nat} {o o2 : Oper} {fuel : Nat} {listed : Array Bool} {a : Act} {w : World} (hr : Region.ready md l.toArray listed = [i, j]) (ho : l[i]? = some o) (ho2 : l[j]? = some o2)
    (h : ∀ K : Act → World → Prop, (∀ a' w', S w' → wpAnyH P md l.toArray Q S fuel (listed.setIfInBounds i true) a' w' → K a' w') →
      if Region.wanted o (yielded l.toArray a.tmps) = true then Oper.wp P o a w K Q else K (a.put o.dst undef) w)
    (h2 : ∀ K : Act → World → Prop, (∀ a' w', S w' → wpAnyH P md l.toArray Q S fuel (listed.setIfInBounds j true) a' w' → K a' w') →
      if Region.wanted o2 (yielded l.toArray a.tmps) = true then Oper.wp P o2 a w K Q else K (a.put o2.dst undef) w) : wpAnyH P md l.toArray Q S (fuel + 1) listed a w := by
  refine wpAnyH_all hr (by simp) fun k hk => ?_
  rcases List.mem_cons.1 hk with rfl | hk
  · exact wpOp_step (by simpa using ho) fun K' hK => h K' fun a' w' hS' hH => hK _ _ ⟨hS', hH⟩
  · obtain rfl : k = j := by simpa using hk
    exact wpOp_step (by simpa using ho2) fun K' hK => h2 K' fun a' w' hS' hH => hK _ _ ⟨hS', hH⟩
/-- '[]T{}'. -/
theorem step_empty {ops : Array Oper} {o : Oper} {a : Act} {w : World} {K : Act → World → Prop} {E : Prop} (hg : o.guard = none) (t e : TypeId) (hop : o.op = Op.buildSlice t 0 #[])
    (hrun : (Instr.buildSlice t 0 #[]).run P w = .ok (.slice (some ⟨w.heap.size, 0, none⟩) 0 0) (w.alloc (.cells #[] e)))
    (hK : K (a.put o.dst (.slice (some ⟨w.heap.size, 0, none⟩) 0 0)) (w.alloc (.cells #[] e))) :
    if Region.wanted o (yielded ops a.tmps) = true then Oper.wp P o a w K Q else E := by
  have hw : Region.wanted o (yielded ops a.tmps) = true := by simp [Region.wanted, hg]
  rw [if_pos hw]
  unfold Oper.wp execOp
  simp only [hop, Sem.run_bind, Sem.run_pure, Result.andThen_ok, List.map_toArray, List.map_nil, hrun]
  exact hK
/-- The reads of a region first. -/
theorem wp_region_reads {id : Nat} {a : Act} {w : World} {l : List Oper} (is1 : List Nat) (fuel : Nat) (hm : P.follows .mixedOrders = true)
    (hs : Region.noSelect l.toArray = true) (hQ : ∀ c a d v w, Q (.panic c) (Act.put a d v) w → Q (.panic c) a w)
    (hB1 : orderB .any l.toArray is1 (Array.replicate l.length false) = true) (hp : (pickOps l is1).all plainOp = true) (hlen : is1.length + fuel = l.length)
    (h : wpQuiet P l.toArray (Ext w) (fun a1 => wpAnyH P .any l.toArray Q (Ext w) fuel (setAll (Array.replicate l.length false) is1) a1 w.drew) (pickOps l is1) a) :
    (Code.region id l.toArray true).wp P Q a w := by
  refine wp_region_held (S := Ext w) hm ?_
  have key := wpAnyH_reads hs hQ is1 (Array.replicate l.length false) a w.drew (ext_drew (ext_refl w)) hB1 hp h
  rw [hlen] at key
  simpa using key
end
end

section
open Go

section
variable {P : Program} {md : Region.Mode}

/-- Each operation of the list waits for earlier ones alone, and its guard is an earlier one. -/
def backB (md : Region.Mode) (l : List Oper) : Bool :=
  (List.range l.length).all fun i => match l[i]? with
    | some o => o.after.all (fun e => !Region.binds md e || decide (e.on < i)) && (match o.guard with | some (j, _) => decide (j < i) | none => true)
    | none => true
theorem backB_spec {l : List Oper} (h : backB md l = true) {i : Nat} {o : Oper} (ho : l[i]? = some o) : (∀ e ∈ o.after, Region.binds md e = true → e.on < i) ∧ (∀ j b, o.guard = some (j, b) → j < i) := by
  have hi : i < l.length := (List.getElem?_eq_some_iff.1 ho).1
  have h1 := List.all_eq_true.1 h i (List.mem_range.2 hi)
  simp only [ho, Bool.and_eq_true] at h1
  refine ⟨fun e he hb => ?_, fun j b hg => ?_⟩
  · have h2 := Array.all_eq_true'.1 h1.1 e he
    simp only [hb, Bool.not_true, Bool.false_or, decide_eq_true_eq] at h2
    exact h2
  · have h2 := h1.2
    rw [hg] at h2
    simpa using h2

/-- The tail in its order, whatever fuel is left. -/
theorem wpAny_tail {ops : Array Oper} {Q : Exit → Act → World → Prop} (x : Nat) : ∀ (l : List Oper) (k : Nat) (listed : Array Bool) (a : Act) (w : World), (∀ j, l[j]? = ops[k + j]?) →
    Region.seqB md ops l.length k listed = true → wpList P ops Q l a w → wpAny P md ops Q (l.length + x) listed a w
  | [], _, _, _, _, _, hB, h => wpAny_done (by simpa [Region.seqB] using hB) h _
  | o :: l, k, listed, a, w, hl, hB, h => by
    have h0 : ops[k]? = some o := by simpa using (hl 0).symm
    simp only [List.length_cons, Region.seqB, Bool.and_eq_true, decide_eq_true_eq] at hB
    rw [show (o :: l).length + x = (l.length + x) + 1 from by simp; omega]
    refine ⟨fun h1 => (by rw [hB.1] at h1; cases h1), fun i hi => ?_⟩
    obtain rfl : i = k := by rw [hB.1] at hi; simpa using hi
    have hw : wpOp P ops Q i (wpList P ops Q l) a w := by unfold wpOp; simp only [h0]; exact h
    exact wpOp_mono (fun a' w' h' => wpAny_tail x l (i + 1) _ a' w' (fun j => by have := hl (j + 1); simpa [Nat.add_assoc, Nat.add_comm 1 j] using this) hB.2 h') hw

/-- All of the head have come up, none of the tail. -/
def headDone (n g : Nat) : Array Bool := (List.replicate n true ++ List.replicate g false).toArray

theorem ready_head {h t : List Oper} {listed : Array Bool} {i : Nat} (hi : i < h.length) : i ∈ Region.ready md (h ++ t).toArray listed ↔ i ∈ Region.ready md h.toArray listed := by
  rw [mem_ready, mem_ready]
  have e : (h ++ t).toArray[i]? = h.toArray[i]? := by simp [List.getElem?_append_left hi]
  rw [e]
theorem wanted_head {h t : List Oper} (hb : backB md h = true) {i : Nat} {o : Oper} (ho : h[i]? = some o) (ts : Array Value) : Region.wanted o (yielded (h ++ t).toArray ts) = Region.wanted o (yielded h.toArray ts) := by
  have hi : i < h.length := (List.getElem?_eq_some_iff.1 ho).1
  have hg := (backB_spec hb ho).2
  unfold Region.wanted
  cases hgu : o.guard with
  | none => rfl
  | some p =>
    obtain ⟨j, b⟩ := p
    have hj := hg j b hgu
    have e : yielded (h ++ t).toArray ts j = yielded h.toArray ts j := by
      unfold yielded
      rw [show (h ++ t).toArray[j]? = h.toArray[j]? from by simp [List.getElem?_append_left (show j < h.length by omega)]]
    simp only [e]

theorem head_done {h t : List Oper} {listed : Array Bool} (hb : backB md h = true) (inv : HeadInv md (h ++ t).toArray h.length listed) (hr : Region.ready md h.toArray listed = []) : listed = headDone h.length t.length := by
  have hall : ∀ i, i < h.length → listed.getD i true = true := by
    intro i
    induction i using Nat.strongRecOn with
    | _ i ih =>
      intro hi
      cases hl : listed.getD i true with
      | true => rfl
      | false =>
        have ho : h[i]? = some h[i] := List.getElem?_eq_getElem hi
        have hm : i ∈ Region.ready md h.toArray listed := mem_ready.2 ⟨hl, h[i], by simp, fun e he hbd => by
          have hlt := (backB_spec hb ho).1 e he hbd
          have h1 := ih e.on hlt (by omega)
          have hs : e.on < listed.size := by rw [inv.size]; simp; omega
          simp [hs] at h1 ⊢
          exact h1⟩
        rw [hr] at hm
        cases hm
  apply Array.ext
  · rw [inv.size]; simp [headDone]
  · intro i h1 h2
    have hs := inv.size
    by_cases hi : i < h.length
    · have := hall i hi
      simp [h1] at this
      rw [this]
      simp [headDone, hi]
    · have := inv.tail i (by omega) (by rw [← hs]; exact h1)
      simp [h1] at this
      rw [this]
      simp [headDone, List.getElem_append, hi]

theorem wpAny_of_quiet_head {h t : List Oper} {C : World → Prop} {Q1 : Act → Prop} {Q : Exit → Act → World → Prop} (hb : backB md h = true) (hs : Region.sinkB md (h ++ t).toArray h.length = true) (hc : Region.chainB md (h ++ t).toArray h.length = true) (ht : 0 < t.length)
    (hseq : Region.seqB md (h ++ t).toArray t.length h.length (headDone h.length t.length) = true) (hQ : ∀ a w, C w → Q1 a → wpList P (h ++ t).toArray Q t a w) :
    ∀ (f : Nat) (listed : Array Bool) (a : Act) (w : World), C w → HeadInv md (h ++ t).toArray h.length listed → wpAnyQ P md h.toArray C Q1 f listed a → wpAny P md (h ++ t).toArray Q (t.length + f) listed a w := by
  have fin : ∀ (f : Nat) (listed : Array Bool) (a : Act) (w : World), C w → HeadInv md (h ++ t).toArray h.length listed → Region.ready md h.toArray listed = [] → Q1 a → wpAny P md (h ++ t).toArray Q (t.length + f) listed a w := by
    intro f listed a w hw inv hr hq
    rw [head_done hb inv hr]
    exact wpAny_tail f t h.length _ a w (fun j => by simp [List.getElem?_append_right]) hseq (hQ a w hw hq)
  intro f
  induction f with
  | zero => intro listed a w hw inv hh; exact fin 0 listed a w hw inv hh.1 hh.2
  | succ f ih =>
    intro listed a w hw inv hh
    by_cases hr : Region.ready md h.toArray listed = []
    · exact fin (f + 1) listed a w hw inv hr (hh.1 hr)
    · obtain ⟨i0, hi0⟩ := List.exists_mem_of_ne_nil _ hr
      have hi0' := hi0
      obtain ⟨hun0, o0, ho0, _⟩ := mem_ready.1 hi0
      have hlt0 : i0 < h.length := by have := (Array.getElem?_eq_some_iff.1 ho0).1; simpa using this
      have hw0 := tail_waits hs hc (by simp; exact ht) inv _ i0 rfl hlt0 hun0
      refine ⟨fun e => absurd e (by
        have := (ready_head (t := t) hlt0).2 hi0'
        intro e
        rw [e] at this
        cases this), fun i hi => ?_⟩
      have hin : i < h.length := by
        rcases Nat.lt_or_ge i h.length with h1 | h1
        · exact h1
        · exact absurd hi (hw0 i h1)
      have hi' := (ready_head (t := t) hin).1 hi
      obtain ⟨_, o, ho, _⟩ := mem_ready.1 hi'
      have ho' : h[i]? = some o := by simpa using ho
      have hq := hh.2 i hi'
      have hq2 : qOp P (h ++ t).toArray C i (wpAnyQ P md h.toArray C Q1 f (listed.setIfInBounds i true)) a := by
        unfold qOp at hq ⊢
        rw [show (h ++ t).toArray[i]? = some o from by simp [List.getElem?_append_left hin, ho']]
        simp only [ho] at hq
        simp only
        rw [wanted_head hb ho']
        exact hq
      exact wpOp_of_qOp hw (fun a' w' hw' h' => ih _ a' w' hw' (inv.set hi hin) h') hq2

/-- **Reads and quiet calls, and a tail that writes.** -/
theorem wp_region_quiet_tail {id : Nat} {Q : Exit → Act → World → Prop} {a : Act} {w : World} {l : List Oper} (n : Nat) (hm : P.follows .mixedOrders = true) (hl : l.take n ++ l.drop n = l) (hn : (l.take n).length = n)
    (hsel : Region.noSelect (l.take n).toArray = true) (hlex : Region.lexFrom .any (l.take n).toArray (l.take n).length 0 (Array.replicate l.length false) = true) (hb : backB .any (l.take n) = true)
    (hs : Region.sinkB .any l.toArray n = true) (hc : Region.chainB .any l.toArray n = true) (ht : 0 < (l.drop n).length)
    (hseq : Region.seqB .any l.toArray (l.drop n).length n (headDone n (l.drop n).length) = true)
    (h : wpQuiet P (l.take n).toArray (fun w' => ∃ k, w' = w.drewN k) (fun a' => ∀ w', (∃ k, w' = w.drewN k) → wpList P l.toArray Q (l.drop n) a' w') (l.take n) a) : (Code.region id l.toArray true).wp P Q a w := by
  refine wp_region_any hm ?_
  have hq := wpAnyQ_lex (C := fun w' => ∃ k, w' = w.drewN k) (md := .any) hsel (l.take n) 0 (Array.replicate l.length false) a (by simp) hlex h
  have key := wpAny_of_quiet_head (P := P) (md := .any) (h := l.take n) (t := l.drop n) (C := fun w' => ∃ k, w' = w.drewN k) (Q1 := fun a' => ∀ w', (∃ k, w' = w.drewN k) → wpList P l.toArray Q (l.drop n) a' w') (Q := Q) hb
    (by rw [hl, hn]; exact hs) (by rw [hl, hn]; exact hc) ht (by rw [hl, hn]; exact hseq) (fun a w hw hq => by rw [hl]; exact hq w hw) (l.take n).length (Array.replicate l.length false) a w.drew ⟨1, rfl⟩
    (by
      rw [hl]
      refine ⟨by simp, fun j oj _ hl => (by rw [getD_replicate_false] at hl; cases hl), fun t _ ht => getD_in (by simpa using ht) (getD_replicate_false _ _)⟩) hq
  rw [hl] at key
  have e : (l.drop n).length + (l.take n).length = l.toArray.size := by rw [List.length_drop, hn]; simp; have := List.length_take_le n l; rw [hn] at this; have := List.length_take (i := n) (l := l); omega
  rw [e] at key
  simpa using key
end
end

section
open Go Go.RowKit Go.Sort

section
variable {P : Program} {md : Region.Mode}

theorem wp_then {o : Oper} {a : Act} {w : World} {K K2 : Act → World → Prop} {Q : Exit → Act → World → Prop} (h : o.wp P a w K (Exit.then K2 Q)) : o.wp P a w K Q := by
  unfold Oper.wp at *
  generalize (execOp a.eval o).run P w = r at *
  cases r with
  | ok n w' => cases n <;> exact h
  | halt x w' => cases x <;> exact h

theorem wpAny_of_head_any {h t : List Oper} {Q : Exit → Act → World → Prop} (hb : backB md h = true) (hs : Region.sinkB md (h ++ t).toArray h.length = true) (hc : Region.chainB md (h ++ t).toArray h.length = true) (ht : 0 < t.length)
    (hseq : Region.seqB md (h ++ t).toArray t.length h.length (headDone h.length t.length) = true) :
    ∀ (f : Nat) (listed : Array Bool) (a : Act) (w : World), HeadInv md (h ++ t).toArray h.length listed → wpAny P md h.toArray (Exit.then (wpList P (h ++ t).toArray Q t) Q) f listed a w → wpAny P md (h ++ t).toArray Q (t.length + f) listed a w := by
  have fin : ∀ (f : Nat) (listed : Array Bool) (a : Act) (w : World), HeadInv md (h ++ t).toArray h.length listed → Region.ready md h.toArray listed = [] → wpList P (h ++ t).toArray Q t a w → wpAny P md (h ++ t).toArray Q (t.length + f) listed a w := by
    intro f listed a w inv hr hq
    rw [head_done hb inv hr]
    exact wpAny_tail f t h.length _ a w (fun j => by simp [List.getElem?_append_right]) hseq hq
  intro f
  induction f with
  | zero => intro listed a w inv hh; exact fin 0 listed a w inv hh.1 hh.2
  | succ f ih =>
    intro listed a w inv hh
    by_cases hr : Region.ready md h.toArray listed = []
    · exact fin (f + 1) listed a w inv hr (hh.1 hr)
    · obtain ⟨i0, hi0⟩ := List.exists_mem_of_ne_nil _ hr
      have hi0' := hi0
      obtain ⟨hun0, o0, ho0, _⟩ := mem_ready.1 hi0
      have hlt0 : i0 < h.length := by have := (Array.getElem?_eq_some_iff.1 ho0).1; simpa using this
      have hw0 := tail_waits hs hc (by simp; exact ht) inv _ i0 rfl hlt0 hun0
      refine ⟨fun e => absurd e (by
        have := (ready_head (t := t) hlt0).2 hi0'
        intro e
        rw [e] at this
        cases this), fun i hi => ?_⟩
      have hin : i < h.length := by
        rcases Nat.lt_or_ge i h.length with h1 | h1
        · exact h1
        · exact absurd hi (hw0 i h1)
      have hi' := (ready_head (t := t) hin).1 hi
      obtain ⟨_, o, ho, _⟩ := mem_ready.1 hi'
      have ho' : h[i]? = some o := by simpa using ho
      have hq := hh.2 i hi'
      unfold wpOp at hq ⊢
      rw [show (h ++ t).toArray[i]? = some o from by simp [List.getElem?_append_left hin, ho']]
      simp only [ho] at hq
      simp only
      rw [wanted_head hb ho']
      split at hq
      · rename_i hw
        rw [if_pos hw]
        rcases hq with hq | ⟨hq, hq'⟩
        · exact .inl (Oper.wp_mono (fun a' w' h' => ih _ a' w' (inv.set hi hin) h') (wp_then hq))
        · exact .inr ⟨hq, hq'⟩
      · rename_i hw
        rw [if_neg hw]
        exact ih _ _ _ (inv.set hi hin) hq

/-- The head's walk, then the tail's list. -/
theorem wpAny_head_tail {Q : Exit → Act → World → Prop} {a : Act} {w : World} {l : List Oper} (n : Nat) (hl : l.take n ++ l.drop n = l) (hn : (l.take n).length = n)
    (hb : backB md (l.take n) = true) (hs : Region.sinkB md l.toArray n = true) (hc : Region.chainB md l.toArray n = true) (ht : 0 < (l.drop n).length)
    (hseq : Region.seqB md l.toArray (l.drop n).length n (headDone n (l.drop n).length) = true)
    (h : wpAny P md (l.take n).toArray (Exit.then (wpList P l.toArray Q (l.drop n)) Q) (l.take n).length (Array.replicate l.length false) a w) : wpAny P md l.toArray Q l.toArray.size (Array.replicate l.length false) a w := by
  have key := wpAny_of_head_any (P := P) (md := md) (h := l.take n) (t := l.drop n) (Q := Q) hb
    (by rw [hl, hn]; exact hs) (by rw [hl, hn]; exact hc) ht (by rw [hl, hn]; exact hseq) (l.take n).length (Array.replicate l.length false) a w
    (by
      rw [hl]
      refine ⟨by simp, fun j oj _ hl => (by rw [getD_replicate_false] at hl; cases hl), fun t _ ht => getD_in (by simpa using ht) (getD_replicate_false _ _)⟩) (by rw [hl]; exact h)
  rw [hl] at key
  have e : (l.drop n).length + (l.take n).length = l.toArray.size := by rw [List.length_drop, hn]; simp; have := List.length_take_le n l; rw [hn] at this; have := List.length_take (i := n) (l := l); omega
  rw [e] at key
  exact key

/-- Reads first in the head, under what grows; then what is left of the head; then the tail. -/
theorem wpAny_reads_tail {Q : Exit → Act → World → Prop} {a : Act} {w w0 : World} {l : List Oper} (n : Nat) (is1 : List Nat) (fuel : Nat) (hl : l.take n ++ l.drop n = l) (hn : (l.take n).length = n)
    (hb : backB md (l.take n) = true) (hs : Region.sinkB md l.toArray n = true) (hc : Region.chainB md l.toArray n = true) (ht : 0 < (l.drop n).length)
    (hseq : Region.seqB md l.toArray (l.drop n).length n (headDone n (l.drop n).length) = true)
    (hsel : Region.noSelect (l.take n).toArray = true) (hQ : ∀ c a d v w, Q (.panic c) (Act.put a d v) w → Q (.panic c) a w)
    (hB1 : orderB md (l.take n).toArray is1 (Array.replicate l.length false) = true) (hp : (pickOps (l.take n) is1).all plainOp = true) (hlen : is1.length + fuel = n) (hw : Ext w0 w)
    (h : wpQuiet P (l.take n).toArray (Ext w0) (fun a1 => wpAnyH P md (l.take n).toArray (Exit.then (wpList P l.toArray Q (l.drop n)) Q) (Ext w0) fuel (setAll (Array.replicate l.length false) is1) a1 w) (pickOps (l.take n) is1) a) :
    wpAny P md l.toArray Q l.toArray.size (Array.replicate l.length false) a w := by
  refine wpAny_head_tail n hl hn hb hs hc ht hseq ?_
  have key := wpAnyH_reads (P := P) (md := md) (S := Ext w0) (Q := Exit.then (wpList P l.toArray Q (l.drop n)) Q) (fuel := fuel) hsel (fun c a d v w h => hQ c a d v w h) is1 (Array.replicate l.length false) a w hw hB1 hp h
  rw [hlen] at key
  rw [hn]
  exact wpAny_of_held _ _ _ _ key
theorem wp_region_reads_tail {id : Nat} {Q : Exit → Act → World → Prop} {a : Act} {w : World} {l : List Oper} (n : Nat) (is1 : List Nat) (fuel : Nat) (hm : P.follows .mixedOrders = true) (hl : l.take n ++ l.drop n = l) (hn : (l.take n).length = n)
    (hb : backB .any (l.take n) = true) (hs : Region.sinkB .any l.toArray n = true) (hc : Region.chainB .any l.toArray n = true) (ht : 0 < (l.drop n).length)
    (hseq : Region.seqB .any l.toArray (l.drop n).length n (headDone n (l.drop n).length) = true)
    (hsel : Region.noSelect (l.take n).toArray = true) (hQ : ∀ c a d v w, Q (.panic c) (Act.put a d v) w → Q (.panic c) a w)
    (hB1 : orderB .any (l.take n).toArray is1 (Array.replicate l.length false) = true) (hp : (pickOps (l.take n) is1).all plainOp = true) (hlen : is1.length + fuel = n)
    (h : wpQuiet P (l.take n).toArray (Ext w) (fun a1 => wpAnyH P .any (l.take n).toArray (Exit.then (wpList P l.toArray Q (l.drop n)) Q) (Ext w) fuel (setAll (Array.replicate l.length false) is1) a1 w.drew) (pickOps (l.take n) is1) a) :
    (Code.region id l.toArray true).wp P Q a w := by
  refine wp_region_any hm ?_
  have := wpAny_reads_tail n is1 fuel hl hn hb hs hc ht hseq hsel hQ hB1 hp hlen (ext_drew (ext_refl w)) h
  simpa using this
/-- .. in a round. -/
theorem round_region_reads_tail {lp m id : Nat} {Q : Exit → Act → World → Prop} {a : Act} {w : World} {l : List Oper} (n : Nat) (is1 : List Nat) (fuel : Nat) (hm : P.follows .mixedOrders = true) (hd : noDefer l = true) (hout : ¬ LetsOut Q) (hl : l.take n ++ l.drop n = l) (hn : (l.take n).length = n)
    (hb : backB .any (l.take n) = true) (hs : Region.sinkB .any l.toArray n = true) (hc : Region.chainB .any l.toArray n = true) (ht : 0 < (l.drop n).length)
    (hseq : Region.seqB .any l.toArray (l.drop n).length n (headDone n (l.drop n).length) = true)
    (hsel : Region.noSelect (l.take n).toArray = true) (hQ : ∀ c a d v w, Q (.panic c) (Act.put a d v) w → Q (.panic c) a w)
    (hB1 : orderB .any (l.take n).toArray is1 (Array.replicate l.length false) = true) (hp : (pickOps (l.take n) is1).all plainOp = true) (hlen : is1.length + fuel = n)
    (h : wpQuiet P (l.take n).toArray (Ext w) (fun a1 => wpAnyH P .any (l.take n).toArray (Exit.then (wpList P l.toArray Q (l.drop n)) Q) (Ext w) fuel (setAll (Array.replicate l.length false) is1) a1 w.drew) (pickOps (l.take n) is1) a) :
    (Code.region id l.toArray true).wpIn (Fence.wide.inRound lp) m P Q a w := by
  refine round_region_any hm hd hout ?_
  have := wpAny_reads_tail n is1 fuel hl hn hb hs hc ht hseq hsel hQ hB1 hp hlen (ext_drew (ext_refl w)) h
  simpa using this
/-- A read of an array that is known as a list. -/
theorem wpQuiet_load_mid {ops : Array Oper} {rest : List Oper} {op : Oper} {a : Act} {C : World → Prop} {Q1 : Act → Prop} (hgd : op.guard = none) (ty : TypeId) (x : Operand) (ho : op.op = .load ty x)
    (b o : Nat) (hx : a.eval x = .pointer (some ⟨b, o, none⟩)) (cs : List Value) (d : TypeDesc) (hS : ∀ w, C w → w.rangeAt b o cs)
    (hu : P.underlying ty = some d) (hd : d.isRow = true) (hi : (P.info? ty).map (·.size) = some cs.length)
    (h : wpQuiet P ops C Q1 rest (a.put op.dst (.agg cs.toArray))) : wpQuiet P ops C Q1 (op :: rest) a := by
  have hw : Region.wanted op (yielded ops a.tmps) = true := by simp [Region.wanted, hgd]
  unfold wpQuiet
  rw [if_pos hw]
  refine ⟨_, fun w hC => ?_, h⟩
  unfold Oper.quietAt execOp
  simp only [ho, hx, Instr.loadAt, Instr.sureAddr, Sem.run_bind, Sem.run_pure, Result.andThen_ok, run_loadVar_mid w b o ty cs d (hS w hC) hu hd hi]
  exact ⟨rfl, rfl⟩
end
end

section
open Go Go.RowKit Go.Sort

theorem depsB_spec {md : Region.Mode} {o : Oper} {listed : Array Bool} : (o.after.toList.all fun e => !Region.binds md e || listed.getD e.on false) = true ↔ ∀ e ∈ o.after, Region.binds md e = true → listed.getD e.on false = true := by
  rw [List.all_eq_true]
  constructor
  · intro h e he hb
    have := h e (by simpa using he)
    rw [hb] at this
    simpa using this
  · intro h e he
    cases hb : Region.binds md e with
    | false => rfl
    | true => simpa using h e (by simpa using he) hb
theorem wpAnyH_inv {P : Program} {md : Region.Mode} {ops : Array Oper} {Q : Exit → Act → World → Prop} {S : World → Prop} (I : Array Bool → Act → World → Prop)
    (hstep : ∀ listed a w, I listed a w → ∀ i, listed.getD i true = false → (∃ o, ops[i]? = some o ∧ (o.after.toList.all fun e => !Region.binds md e || listed.getD e.on false) = true) → wpOp P ops Q i (fun a' w' => S w' ∧ I (listed.setIfInBounds i true) a' w') a w)
    (hfin : ∀ listed a w, I listed a w → (∀ i o, ops[i]? = some o → listed.getD i true = false → (o.after.toList.all fun e => !Region.binds md e || listed.getD e.on false) = false) → Q .normal a w) (hsz : ∀ l a w, I l a w → l.size = ops.size) :
    ∀ (fuel : Nat) (listed : Array Bool) (a : Act) (w : World), (listed.toList.countP (· == false)) ≤ fuel → I listed a w → wpAnyH P md ops Q S fuel listed a w := by
  have fin : ∀ listed a w, I listed a w → Region.ready md ops listed = [] → Q .normal a w := by
    intro listed a w h hr
    refine hfin _ _ _ h fun i o ho hun => ?_
    cases hb : (o.after.toList.all fun e => !Region.binds md e || listed.getD e.on false) with
    | false => rfl
    | true =>
      have : i ∈ Region.ready md ops listed := mem_ready.2 ⟨hun, o, ho, depsB_spec.1 hb⟩
      rw [hr] at this
      cases this
  intro fuel
  induction fuel with
  | zero =>
    intro listed a w hc h
    have hr : Region.ready md ops listed = [] := by
      rcases hL : Region.ready md ops listed with _ | ⟨i, r⟩
      · rfl
      · exfalso
        have hi : i ∈ Region.ready md ops listed := by rw [hL]; simp
        obtain ⟨hun, o, ho, _⟩ := mem_ready.1 hi
        have hlt : i < ops.size := (Array.getElem?_eq_some_iff.1 ho).1
        have hs := hsz _ _ _ h
        have hf : listed[i]'(by omega) = false := by
          have : i < listed.size := by omega
          simpa [this] using hun
        have hp : 0 < listed.toList.countP (· == false) := List.countP_pos_iff.2 ⟨listed[i]'(by omega), by simp, by simp [hf]⟩
        omega
    exact ⟨hr, fin _ _ _ h hr⟩
  | succ fuel ih =>
    intro listed a w hc h
    refine ⟨fun hr => fin _ _ _ h hr, fun i hi => ?_⟩
    obtain ⟨hun, o, ho, hd⟩ := mem_ready.1 hi
    have hlt : i < ops.size := (Array.getElem?_eq_some_iff.1 ho).1
    have hs := hsz _ _ _ h
    have hlt' : i < listed.size := by omega
    have hf : listed[i] = false := by simpa [hlt'] using hun
    refine wpOp_mono (fun a' w' h' => ⟨h'.1, ih _ a' w' ?_ h'.2⟩) (hstep _ _ _ h i hun ⟨o, ho, depsB_spec.2 hd⟩)
    have e : (listed.setIfInBounds i true).toList = listed.toList.set i true := by simp
    rw [e, List.countP_set (by simpa using hlt')]
    have hp : 0 < listed.toList.countP (· == false) := List.countP_pos_iff.2 ⟨listed[i], by simp, by simp [hf]⟩
    simp [hf]
    simp at hc hp
    omega
end

section
open Go.RowKit

/-- A slice that is new: empty without room, or a row that lies at or beyond the base. -/
def App (w : World) (base : Nat) (e : TypeId) (v : Value) (n : Nat) (xs : List Value) : Prop := (n = 0 ∧ xs = [] ∧ ∃ a, v = .slice (some a) 0 0) ∨ w.ownsRow base e 1 v n xs

theorem run_append_zero {P : Program} (w : World) (t ty e : TypeId) (i : TypeInfo) (ht : P.underlying t = some (.slice e)) (hi : P.info? e = some i) (a A : Option Addr) (n cap c : Nat) (hn : n ≤ cap) :
    (Builtin.append_ #[t, t] ty #[.slice a n cap, .slice A 0 c]).run P w = .ok (.slice a n cap) w := by
  cases a <;> cases A <;> simp [Builtin.append_, run_underlying ht, sizeOf, typeInfo, hi, Builtin.lenOf, Builtin.firstCells, loadCells, loadCellsFrom, hn, storeCells]

theorem run_app {P : Program} (w : World) (t ty e : TypeId) (i : TypeInfo) (z : Value) (bytes : Nat) (ht : P.underlying t = some (.slice e)) (hi : P.info? e = some i) (hz : i.zero = some z) (hs : i.size = 1) (hby : i.bytes = bytes) (hzs : z.cells.size = 1)
    (base : Nat) (hbase : base ≤ w.heap.size) (v : Value) (n : Nat) (xs : List Value) (h : App w base e v n xs) (A : Option Addr) (m c : Nat) (news : List Value) (hrd : Rd w 1 A m news) (h1 : ∀ u ∈ news, u.oneCell' = true)
    (h63 : n + m ≤ maxLen) (hbytes : (n + m) * bytes ≤ 140737488355328) :
    ∃ v' w', (Builtin.append_ #[t, t] ty #[v, .slice A m c]).run P w = .ok v' w' ∧ App w' base e v' (n + m) (xs ++ news) ∧ Below base w w' := by
  by_cases hm : m = 0
  · subst hm
    have hn : news = [] := List.eq_nil_of_length_eq_zero (by have := hrd.1; omega)
    subst hn
    rw [List.append_nil, Nat.add_zero]
    rcases h with ⟨rfl, rfl, a, rfl⟩ | h
    · exact ⟨_, _, run_append_zero w t ty e i ht hi _ _ _ _ _ (Nat.le_refl _), .inl ⟨rfl, rfl, a, rfl⟩, Below.refl _ _⟩
    · rcases h.2 with ⟨rfl, rfl⟩ | ⟨g, cap, cur, rfl, hb, hg, hnc, hcm, _⟩
      · exact ⟨_, _, run_append_zero w t ty e i ht hi _ _ _ _ _ (Nat.le_refl _), .inr h, Below.refl _ _⟩
      · exact ⟨_, _, run_append_zero w t ty e i ht hi _ _ _ _ _ hnc, .inr h, Below.refl _ _⟩
  · obtain ⟨b, off, rfl, hc⟩ := hrd.2.2 (by omega)
    have hnews : ∀ j u, news[j]? = some u → w.cell? ((⟨b, off, none⟩ : Addr).add j) = some u := fun j u hj => by
      rw [show (⟨b, off, none⟩ : Addr).add j = ⟨b, off + j, none⟩ from by unfold Addr.add; split <;> simp_all]
      exact hc j u hj
    rcases h with ⟨rfl, rfl, a, rfl⟩ | h
    · obtain ⟨v', w', hr, ho, hg⟩ := run_append_arg_grows (P := P) w t ty e i z 1 bytes ht hi hz hs hby hzs (by omega) a 0 0 [] (by simp) (by simp) ⟨b, off, none⟩ m c news hrd.1 hnews (by omega) h63 hbytes
      refine ⟨v', w', hr, .inr (ho.mono hbase), ?_⟩
      exact (Below.refl base w).grown hg hbase (fun k e => by cases e)
    · obtain ⟨v', w', hr, ho, hg, _⟩ := run_append_own (P := P) w base t ty e i z 1 bytes ht hi hz hs hby hzs (by omega) v n xs h ⟨b, off, none⟩ m c news hrd.1 hnews h1 h63 hbytes hbase
      refine ⟨v', w', hr, .inr ho, ?_⟩
      exact (Below.refl base w).grown hg hbase (fun k e => (h.lt k e).1)

/-- .. as one step of a region. -/
theorem step_app {P : Program} {ops : Array Oper} {o : Oper} {a : Act} {w : World} {K : Act → World → Prop} {Q : Exit → Act → World → Prop} {E : Prop}
    (hg : o.guard = none) (s x : Operand) (t : TypeId) (hop : o.op = Op.call { callee := Callee.builtin Builtin.append, args := #[s, x], argTypes := #[t, t] })
    (e : TypeId) (i : TypeInfo) (z : Value) (bytes : Nat) (ht : P.underlying t = some (.slice e)) (hi : P.info? e = some i) (hz : i.zero = some z) (hs : i.size = 1) (hby : i.bytes = bytes) (hzs : z.cells.size = 1)
    (base : Nat) (hbase : base ≤ w.heap.size) (v : Value) (n : Nat) (xs : List Value) (hv : a.eval s = v) (h : App w base e v n xs) (A : Option Addr) (m c : Nat) (news : List Value) (hx : a.eval x = .slice A m c) (hrd : Rd w 1 A m news) (h1 : ∀ u ∈ news, u.oneCell' = true)
    (h63 : n + m ≤ maxLen) (hbytes : (n + m) * bytes ≤ 140737488355328)
    (hK : ∀ v' w', App w' base e v' (n + m) (xs ++ news) → Below base w w' → K (a.put o.dst v') w') :
    if Region.wanted o (yielded ops a.tmps) = true then Oper.wp P o a w K Q else E := by
  have hw : Region.wanted o (yielded ops a.tmps) = true := by simp [Region.wanted, hg]
  rw [if_pos hw]
  obtain ⟨v', w', hr, h2, h3⟩ := run_app (P := P) w t o.type e i z bytes ht hi hz hs hby hzs base hbase v n xs h A m c news hrd h1 h63 hbytes
  unfold Oper.wp execOp
  simp only [hop, resolve, invoke, builtin, Sem.run_bind, Sem.run_pure, Result.andThen_ok, List.map_toArray, List.map_cons, List.map_nil, hv, hx, hr]
  exact hK v' w' h2 h3
/-- A new slice reads as what was appended. -/
theorem App.rd {w : World} {base : Nat} {e : TypeId} {v : Value} {n : Nat} {xs : List Value} (h : App w base e v n xs) : ∃ A c, v = .slice A n c ∧ n ≤ c ∧ Rd w 1 A n xs := by
  rcases h with ⟨rfl, rfl, a, rfl⟩ | h
  · exact ⟨_, _, rfl, Nat.le_refl _, Rd.nil _ _ _⟩
  · rcases h.2 with ⟨rfl, rfl⟩ | ⟨g, cap, cur, rfl, hb, hg, hnc, hcm, _⟩
    · exact ⟨_, _, rfl, Nat.le_refl _, Rd.of_own h⟩
    · exact ⟨_, _, rfl, hnc, Rd.of_own h⟩
theorem App.below {w w' : World} {base b : Nat} {e : TypeId} {v : Value} {n : Nat} {xs : List Value} (h : App w base e v n xs) (hb : Below b w w') (hlt : w.heap.size ≤ b) : App w' base e v n xs := by
  rcases h with h | h
  · exact .inl h
  · exact .inr (h.kept (⟨hb.os, hb.tape, hb.output, hb.size, fun k hk _ => hb.block k (by omega)⟩ : w.grownBy w' none) (by cases v.ownBlock <;> simp))
theorem App.rebase {w : World} {base : Nat} {e : TypeId} {a : Addr} : App w base e (.slice (some a) 0 0) 0 [] := .inl ⟨rfl, rfl, a, rfl⟩
end

section
open Go.RowKit

/-- A slice that is new: empty without room, or a row that lies at or beyond the base. -/
def AppZ (w : World) (base : Nat) (e : TypeId) (sz : Nat) (v : Value) (n : Nat) (xs : List Value) : Prop :=
  (n = 0 ∧ xs = [] ∧ ∃ a : Addr, v = .slice (some a) 0 0 ∧ base ≤ a.block ∧ a.block < w.heap.size) ∨ w.ownsRow base e sz v n xs

section
variable {w w' : World} {base : Nat} {e : TypeId} {sz : Nat} {v : Value} {n : Nat} {xs : List Value}
theorem AppZ.lt (h : AppZ w base e sz v n xs) : ∀ k, v.ownBlock = some k → base ≤ k ∧ k < w.heap.size := by
  rcases h with ⟨_, _, a, rfl, h1, h2⟩ | h
  · intro k hk
    simp only [Value.ownBlock, Option.some.injEq] at hk
    subst hk
    exact ⟨h1, h2⟩
  · exact h.lt
theorem AppZ.kept {row : Option Nat} (h : AppZ w base e sz v n xs) (hg : w.grownBy w' row) (hne : v.ownBlock = none ∨ v.ownBlock ≠ row) : AppZ w' base e sz v n xs := by
  rcases h with ⟨h1, h2, a, h3, h4, h5⟩ | h
  · exact .inl ⟨h1, h2, a, h3, h4, Nat.lt_of_lt_of_le h5 hg.size⟩
  · exact .inr (h.kept hg hne)
theorem AppZ.alloc (h : AppZ w base e sz v n xs) (o : Obj) : AppZ (w.alloc o) base e sz v n xs :=
  h.kept (World.grownBy_alloc w o none) (by cases v.ownBlock <;> simp)
theorem AppZ.below {b : Nat} (h : AppZ w base e sz v n xs) (hb : Below b w w') (hlt : w.heap.size ≤ b) : AppZ w' base e sz v n xs :=
  h.kept (⟨hb.os, hb.tape, hb.output, hb.size, fun k hk _ => hb.block k (by omega)⟩ : w.grownBy w' none) (by cases v.ownBlock <;> simp)
theorem AppZ.mono {base' : Nat} (h : AppZ w base e sz v n xs) (hb : base' ≤ base) : AppZ w base' e sz v n xs := by
  rcases h with ⟨h1, h2, a, h3, h4, h5⟩ | h
  · exact .inl ⟨h1, h2, a, h3, by omega, h5⟩
  · exact .inr (h.mono hb)
theorem AppZ.rd (h : AppZ w base e sz v n xs) : ∃ A c, v = .slice A n c ∧ n ≤ c ∧ Rd w sz A n xs := by
  rcases h with ⟨rfl, rfl, a, rfl, _⟩ | h
  · exact ⟨_, _, rfl, Nat.le_refl _, Rd.nil _ _ _⟩
  · rcases h.2 with ⟨rfl, rfl⟩ | ⟨g, cap, cur, rfl, hb, hg, hnc, hcm, _⟩
    · exact ⟨_, _, rfl, Nat.le_refl _, Rd.of_own h⟩
    · exact ⟨_, _, rfl, hnc, Rd.of_own h⟩
theorem AppZ.empty (w : World) (hb : base ≤ w.heap.size) (o : Obj) : AppZ (w.alloc o) base e sz (.slice (some ⟨w.heap.size, 0, none⟩) 0 0) 0 [] :=
  .inl ⟨rfl, rfl, _, rfl, hb, by simp⟩
theorem AppZ.nil (w : World) : AppZ w base e sz (.slice .none 0 0) 0 [] := .inr (World.ownsRow_nil _ _ _ _)
end

theorem run_appz {P : Program} (w : World) (t ty e : TypeId) (i : TypeInfo) (z : Value) (sz bytes : Nat) (ht : P.underlying t = some (.slice e)) (hi : P.info? e = some i) (hz : i.zero = some z) (hs : i.size = sz) (hby : i.bytes = bytes) (hzs : z.cells.size = sz) (hsz : 0 < sz)
    (base : Nat) (hbase : base ≤ w.heap.size) (v : Value) (n : Nat) (xs : List Value) (h : AppZ w base e sz v n xs) (A : Option Addr) (m c : Nat) (news : List Value) (hrd : Rd w sz A m news) (h1 : ∀ u ∈ news, u.oneCell' = true)
    (h63 : n + m ≤ maxLen) (hbytes : (n + m) * bytes ≤ 140737488355328) :
    ∃ v' w', (Builtin.append_ #[t, t] ty #[v, .slice A m c]).run P w = .ok v' w' ∧ AppZ w' base e sz v' (n + m) (xs ++ news) ∧ w.grownBy w' v.ownBlock := by
  have hrefl : w.grownBy w v.ownBlock := ⟨rfl, rfl, rfl, Nat.le_refl _, fun _ _ _ => rfl⟩
  by_cases hm : m = 0
  · subst hm
    have hn : news = [] := List.eq_nil_of_length_eq_zero (by have := hrd.1; omega)
    subst hn
    rw [List.append_nil, Nat.add_zero]
    rcases h with ⟨rfl, rfl, a, rfl, hb, hlt⟩ | h
    · exact ⟨_, _, run_append_zero w t ty e i ht hi _ _ _ _ _ (Nat.le_refl _), .inl ⟨rfl, rfl, a, rfl, hb, hlt⟩, hrefl⟩
    · rcases h.2 with ⟨rfl, rfl⟩ | ⟨g, cap, cur, rfl, hb, hg, hnc, hcm, _⟩
      · exact ⟨_, _, run_append_zero w t ty e i ht hi _ _ _ _ _ (Nat.le_refl _), .inr h, hrefl⟩
      · exact ⟨_, _, run_append_zero w t ty e i ht hi _ _ _ _ _ hnc, .inr h, hrefl⟩
  · obtain ⟨b, off, rfl, hc⟩ := hrd.2.2 (by omega)
    have hnews : ∀ j u, news[j]? = some u → w.cell? ((⟨b, off, .none⟩ : Addr).add j) = some u := fun j u hj => by
      rw [show (⟨b, off, .none⟩ : Addr).add j = ⟨b, off + j, .none⟩ from by unfold Addr.add; split <;> simp_all]
      exact hc j u hj
    rcases h with ⟨rfl, rfl, a, rfl, hb, hlt⟩ | h
    · obtain ⟨v', w', hr, ho, hg⟩ := run_append_arg_grows (P := P) w t ty e i z sz bytes ht hi hz hs hby hzs hsz a 0 0 [] (by simp) (by simp) ⟨b, off, .none⟩ m c news hrd.1 hnews (by omega) h63 hbytes
      exact ⟨v', w', hr, .inr (ho.mono hbase), hg.but _⟩
    · obtain ⟨v', w', hr, ho, hg, _⟩ := run_append_own (P := P) w base t ty e i z sz bytes ht hi hz hs hby hzs hsz v n xs h ⟨b, off, .none⟩ m c news hrd.1 hnews h1 h63 hbytes hbase
      exact ⟨v', w', hr, .inr ho, hg⟩

/-- .. as one step of a region. -/
theorem step_appz {P : Program} {ops : Array Oper} {o : Oper} {a : Act} {w : World} {K : Act → World → Prop} {Q : Exit → Act → World → Prop} {E : Prop}
    (hg : o.guard = none) (s x : Operand) (t : TypeId) (hop : o.op = Op.call { callee := Callee.builtin Builtin.append, args := #[s, x], argTypes := #[t, t] })
    (e : TypeId) (i : TypeInfo) (z : Value) (sz bytes : Nat) (ht : P.underlying t = some (.slice e)) (hi : P.info? e = some i) (hz : i.zero = some z) (hs : i.size = sz) (hby : i.bytes = bytes) (hzs : z.cells.size = sz) (hsz : 0 < sz)
    (base : Nat) (hbase : base ≤ w.heap.size) (v : Value) (n : Nat) (xs : List Value) (hv : a.eval s = v) (h : AppZ w base e sz v n xs) (A : Option Addr) (m c : Nat) (news : List Value) (hx : a.eval x = .slice A m c) (hrd : Rd w sz A m news) (h1 : ∀ u ∈ news, u.oneCell' = true)
    (h63 : n + m ≤ maxLen) (hbytes : (n + m) * bytes ≤ 140737488355328)
    (hK : ∀ v' w', AppZ w' base e sz v' (n + m) (xs ++ news) → w.grownBy w' v.ownBlock → K (a.put o.dst v') w') :
    if Region.wanted o (yielded ops a.tmps) = true then Oper.wp P o a w K Q else E := by
  have hw : Region.wanted o (yielded ops a.tmps) = true := by simp [Region.wanted, hg]
  rw [if_pos hw]
  obtain ⟨v', w', hr, h2, h3⟩ := run_appz (P := P) w t o.type e i z sz bytes ht hi hz hs hby hzs hsz base hbase v n xs h A m c news hrd h1 h63 hbytes
  unfold Oper.wp execOp
  simp only [hop, resolve, invoke, builtin, Sem.run_bind, Sem.run_pure, Result.andThen_ok, List.map_toArray, List.map_cons, List.map_nil, hv, hx, hr]
  exact hK v' w' h2 h3
/-- .. as one step of a list. -/
theorem wpList_appz {P : Program} {ops : Array Oper} {rest : List Oper} {o : Oper} {a : Act} {w : World} {Q : Exit → Act → World → Prop}
    (hg : o.guard = none) (s x : Operand) (t : TypeId) (hop : o.op = Op.call { callee := Callee.builtin Builtin.append, args := #[s, x], argTypes := #[t, t] })
    (e : TypeId) (i : TypeInfo) (z : Value) (sz bytes : Nat) (ht : P.underlying t = some (.slice e)) (hi : P.info? e = some i) (hz : i.zero = some z) (hs : i.size = sz) (hby : i.bytes = bytes) (hzs : z.cells.size = sz) (hsz : 0 < sz)
    (base : Nat) (hbase : base ≤ w.heap.size) (v : Value) (n : Nat) (xs : List Value) (hv : a.eval s = v) (h : AppZ w base e sz v n xs) (A : Option Addr) (m c : Nat) (news : List Value) (hx : a.eval x = .slice A m c) (hrd : Rd w sz A m news) (h1 : ∀ u ∈ news, u.oneCell' = true)
    (h63 : n + m ≤ maxLen) (hbytes : (n + m) * bytes ≤ 140737488355328)
    (hK : ∀ v' w', AppZ w' base e sz v' (n + m) (xs ++ news) → w.grownBy w' v.ownBlock → wpList P ops Q rest (a.put o.dst v') w') :
    wpList P ops Q (o :: rest) a w := by
  refine wpList_plain hg fun K hK' => ?_
  obtain ⟨v', w', hr, h2, h3⟩ := run_appz (P := P) w t o.type e i z sz bytes ht hi hz hs hby hzs hsz base hbase v n xs h A m c news hrd h1 h63 hbytes
  unfold Oper.wp execOp
  simp only [hop, resolve, invoke, builtin, Sem.run_bind, Sem.run_pure, Result.andThen_ok, List.map_toArray, List.map_cons, List.map_nil, hv, hx, hr]
  exact hK' _ _ (hK v' w' h2 h3)
end

end Go.Proofs.Yteofgkdpknaapaa
