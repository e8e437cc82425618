/- Out of chapter 16 (printed by need.py). -/
import Derived.Test.YteofgkdpknaapaaN01
namespace Go.Proofs.Yteofgkdpknaapaa
open Go.RowKit Go.Sort

theorem padL_full {l : List UInt8} (h : l.length = 32) : padL l = l := by unfold padL; exact List.take_left' h
/-- The hash with a number in a list of bytes. -/
def sumAt (bs : List UInt8) (i : Nat) : Sum32 := padS ((bs.drop (2 + 32 * i)).take 32)
theorem sumAt_val {bs : List UInt8} {i : Nat} (h : 2 + 32 * i + 32 ≤ bs.length) : (sumAt bs i).1 = (bs.drop (2 + 32 * i)).take 32 := padL_full (by rw [List.length_take, List.length_drop]; omega)
def sumsAt (bs : List UInt8) (a k : Nat) : List Sum32 := (List.range k).map fun i => sumAt bs (a + i)
theorem sumsAt_len (bs : List UInt8) (a k : Nat) : (sumsAt bs a k).length = k := by simp [sumsAt]
theorem sumsAt_succ (bs : List UInt8) (a k : Nat) : sumsAt bs a (k + 1) = sumsAt bs a k ++ [sumAt bs (a + k)] := by simp [sumsAt, List.range_succ]
theorem join_at {bs : List UInt8} {a : Nat} : ∀ k, 2 + 32 * (a + k) ≤ bs.length → (sumsAt bs a k).flatMap (·.1) = (bs.drop (2 + 32 * a)).take (32 * k)
  | 0, _ => by simp [sumsAt]
  | k + 1, h => by
    rw [sumsAt_succ, List.flatMap_append, join_at k (by omega), List.flatMap_cons, List.flatMap_nil, List.append_nil, sumAt_val (by omega), show 32 * (k + 1) = 32 * k + 32 by omega, List.take_add, List.drop_drop]
    congr 3
    omega
def b8 (i : Int) : UInt8 := UInt8.ofNat (i % 256).toNat
theorem b8_wrap (i : Int) : IntKind.u8.wrap i = ((b8 i).toNat : Int) := by
  have h1 : 0 ≤ i % 256 := Int.emod_nonneg _ (by decide)
  have h2 : i % 256 < 256 := Int.emod_lt_of_pos _ (by decide)
  unfold b8
  rw [UInt8.toNat_ofNat']
  simp [IntKind.wrap, IntKind.bits, IntKind.signed]
  omega
theorem b8_nat {n : Nat} (h : n < 256) : (b8 (n : Int)).toNat = n := by
  unfold b8
  rw [UInt8.toNat_ofNat']
  omega
theorem b8_of (b : UInt8) : b8 (b.toNat : Int) = b := by
  have := b.toNat_lt
  apply UInt8.toNat_inj.1
  exact b8_nat (by omega)
/-- The bytes of a signature. -/
def bytS (s : Sg) : List UInt8 := b8 s.i :: b8 (s.pa.length : Int) :: (s.ch.flatMap (·.1) ++ s.pa.flatMap (·.1))
theorem vals_len : ∀ xs : List Sum32, (xs.flatMap (·.1)).length = 32 * xs.length
  | [] => rfl
  | x :: xs => by rw [List.flatMap_cons, List.length_append, vals_len xs, x.2, List.length_cons]; omega
theorem bytS_len (s : Sg) : (bytS s).length = 2 + 32 * (s.ch.length + s.pa.length) := by
  unfold bytS
  rw [List.length_cons, List.length_cons, List.length_append, vals_len, vals_len]; omega
/-- What is read from bytes. -/
def formP (bs : List UInt8) : Bool := decide (2 ≤ bs.length ∧ bs.length = 2 + 32 * (67 + (bs.getD 1 0).toNat) ∧ (bs.getD 1 0).toNat ≤ 4 ∧ (bs.getD 0 0).toNat < 2 ^ (bs.getD 1 0).toNat)
def parS (bs : List UInt8) : Sg × Int := if formP bs = true then (⟨((bs.getD 0 0).toNat : Int), sumsAt bs 0 67, sumsAt bs 67 (bs.getD 1 0).toNat⟩, 0) else (sg0, 3)
theorem flat_piece : ∀ (xs : List Sum32) (i : Nat) (x : Sum32), xs[i]? = some x → ((xs.flatMap (·.1)).drop (32 * i)).take 32 = x.1
  | [], i, x, h => by simp at h
  | y :: xs, 0, x, h => by
    simp at h
    subst h
    rw [List.flatMap_cons, Nat.mul_zero, List.drop_zero]
    exact List.take_left' y.2
  | y :: xs, i + 1, x, h => by
    rw [List.flatMap_cons, show 32 * (i + 1) = 32 + 32 * i by omega, ← List.drop_drop, List.drop_left' y.2]
    exact flat_piece xs i x (by simpa using h)
theorem sum_ext {x y : Sum32} (h : x.1 = y.1) : x = y := Subtype.ext h
theorem sumsAt_byt (b0 b1 : UInt8) (xs : List Sum32) (a k : Nat) (h : a + k ≤ xs.length) : sumsAt (b0 :: b1 :: xs.flatMap (·.1)) a k = (xs.drop a).take k := by
  refine List.ext_getElem? fun i => ?_
  unfold sumsAt
  rw [List.getElem?_map, List.getElem?_take]
  by_cases hi : i < k
  · rw [List.getElem?_range hi, if_pos hi, List.getElem?_drop, Option.map_some]
    obtain ⟨x, hx⟩ : ∃ x, xs[a + i]? = some x := ⟨_, List.getElem?_eq_getElem (by omega)⟩
    rw [hx]
    congr 1
    apply sum_ext
    have hl : 2 + 32 * (a + i) + 32 ≤ (b0 :: b1 :: xs.flatMap (·.1)).length := by rw [List.length_cons, List.length_cons, vals_len]; omega
    rw [sumAt_val hl, show 2 + 32 * (a + i) = (32 * (a + i) + 1) + 1 by omega, List.drop_succ_cons, List.drop_succ_cons]
    exact flat_piece xs (a + i) x hx
  · rw [if_neg hi, List.getElem?_eq_none (by simp; omega)]; rfl
theorem formedS_of {s : Sg} (h : formedS s = true) : ∃ N : Nat, s.i = (N : Int) ∧ s.ch.length = 67 ∧ s.pa.length ≤ 4 ∧ N < 2 ^ s.pa.length ∧ 2 ^ s.pa.length ≤ 16 := by
  unfold formedS at h
  rw [decide_eq_true_eq] at h
  obtain ⟨h1, h2, h3, h4⟩ := h
  refine ⟨s.i.toNat, by omega, h1, h2, ?_, Nat.pow_le_pow_right (n := 2) (i := s.pa.length) (j := 4) (by omega) h2⟩
  have : ((s.i.toNat : Nat) : Int) < ((2 ^ s.pa.length : Nat) : Int) := by rw [Int.toNat_of_nonneg h3]; push_cast; exact h4
  exact_mod_cast this
/-- A signature is read from its bytes. -/
theorem par_byt {s : Sg} (h : formedS s = true) : parS (bytS s) = (s, 0) := by
  obtain ⟨N, e, h1, h2, h3, h4⟩ := formedS_of h
  obtain ⟨i, ch, pa⟩ := s
  dsimp only at e h1 h2 h3 h4
  subst e
  have e0 : ((bytS ⟨(N : Int), ch, pa⟩).getD 0 0).toNat = N := by
    show (b8 (N : Int)).toNat = N
    exact b8_nat (by omega)
  have e1 : ((bytS ⟨(N : Int), ch, pa⟩).getD 1 0).toNat = pa.length := by
    show (b8 (pa.length : Int)).toNat = pa.length
    exact b8_nat (by omega)
  have hl := bytS_len ⟨(N : Int), ch, pa⟩
  dsimp only at hl
  have hf : formP (bytS ⟨(N : Int), ch, pa⟩) = true := by
    unfold formP
    rw [decide_eq_true_eq, e0, e1, hl, h1]
    exact ⟨by omega, rfl, h2, h3⟩
  unfold parS
  rw [if_pos hf, e0, e1]
  have hb : bytS ⟨(N : Int), ch, pa⟩ = b8 (N : Int) :: b8 (pa.length : Int) :: (ch ++ pa).flatMap (·.1) := by
    unfold bytS
    rw [List.flatMap_append]
  rw [hb, sumsAt_byt _ _ _ 0 67 (by rw [List.length_append]; omega), sumsAt_byt _ _ _ 67 pa.length (by rw [List.length_append]; omega), List.drop_zero, List.take_left' h1, List.drop_left' h1, List.take_length]
/-- What is accepted has these bytes. -/
theorem byt_par {bs : List UInt8} (h : formP bs = true) : bytS (parS bs).1 = bs := by
  unfold parS
  rw [if_pos h]
  unfold formP at h
  rw [decide_eq_true_eq] at h
  obtain ⟨h1, h2, h3, h4⟩ := h
  rcases bs with _ | ⟨b0, _ | ⟨b1, rest⟩⟩
  · simp at h1
  · simp at h1
  have g0 : (b0 :: b1 :: rest).getD 0 0 = b0 := rfl
  have g1 : (b0 :: b1 :: rest).getD 1 0 = b1 := rfl
  rw [g1] at h2 h3 h4
  unfold bytS
  rw [g0, g1]
  dsimp only
  rw [sumsAt_len, b8_of, b8_of, join_at 67 (by omega), join_at b1.toNat (by omega)]
  congr 2
  simp only [List.length_cons] at h2
  rw [show 2 + 32 * 0 = 0 + 1 + 1 from rfl, List.drop_succ_cons, List.drop_succ_cons, List.drop_zero, show 2 + 32 * 67 = 32 * 67 + 1 + 1 from rfl, List.drop_succ_cons, List.drop_succ_cons, ← List.take_add]
  exact List.take_of_length_le (by omega)
theorem par_bad {bs : List UInt8} (h : formP bs = false) : parS bs = (sg0, 3) := by unfold parS; rw [if_neg (by rw [h]; decide)]
theorem par_len {bs : List UInt8} (h : formP bs = true) : bs.length = 2 + 32 * (67 + (bs.getD 1 0).toNat) := by
  unfold formP at h
  rw [decide_eq_true_eq] at h
  exact h.2.1
/-- With a byte less it is refused. -/
theorem par_less {s : Sg} (h : formedS s = true) : formP ((bytS s).take ((bytS s).length - 1)) = false := by
  obtain ⟨N, e, h1, h2, h3, h4⟩ := formedS_of h
  have hl := bytS_len s
  have e1 : (((bytS s).take ((bytS s).length - 1)).getD 1 0).toNat = s.pa.length := by
    rw [List.getD_eq_getElem?_getD, List.getElem?_take, if_pos (by omega)]
    show (b8 (s.pa.length : Int)).toNat = s.pa.length
    exact b8_nat (by omega)
  unfold formP
  rw [e1]
  exact decide_eq_false fun hh => by have := hh.2.1; rw [List.length_take] at this; omega
theorem par_more {s : Sg} (h : formedS s = true) (b : UInt8) : formP (bytS s ++ [b]) = false := by
  obtain ⟨N, e, h1, h2, h3, h4⟩ := formedS_of h
  have hl := bytS_len s
  have e1 : ((bytS s ++ [b]).getD 1 0).toNat = s.pa.length := by
    rw [List.getD_eq_getElem?_getD, List.getElem?_append_left (by omega)]
    show (b8 (s.pa.length : Int)).toNat = s.pa.length
    exact b8_nat (by omega)
  unfold formP
  rw [e1]
  exact decide_eq_false fun hh => by have := hh.2.1; rw [List.length_append, List.length_singleton] at this; omega
end Go.Proofs.Yteofgkdpknaapaa
