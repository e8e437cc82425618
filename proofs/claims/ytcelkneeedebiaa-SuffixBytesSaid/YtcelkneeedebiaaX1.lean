/- Suffixes in order, plain: order by beginnings, the rounds of doubling. -/
import Derived.WalkKit
namespace Go.Proofs.Ytcelkneeedebiaa

/-- A text comes before another one. -/
def lexlt : List UInt8 → List UInt8 → Bool
  | [], [] => false
  | [], _ :: _ => true
  | _ :: _, [] => false
  | a :: as, b :: bs => decide (a < b) || (a == b && lexlt as bs)
theorem lexlt_nil (a : List UInt8) : lexlt a [] = false := by cases a <;> rfl
theorem lexlt_cons (a b : UInt8) (as bs : List UInt8) : lexlt (a :: as) (b :: bs) = true ↔ a < b ∨ (a = b ∧ lexlt as bs = true) := by simp [lexlt]
theorem lexlt_irrefl : ∀ a : List UInt8, lexlt a a = false
  | [] => rfl
  | a :: as => by simp [lexlt, lexlt_irrefl as]
theorem lexlt_trans : ∀ {a b c : List UInt8}, lexlt a b = true → lexlt b c = true → lexlt a c = true
  | [], [], _, h, _ => by cases h
  | [], _ :: _, [], _, h => by cases h
  | [], _ :: _, _ :: _, _, _ => rfl
  | _ :: _, [], _, h, _ => by cases h
  | _ :: _, _ :: _, [], _, h => by cases h
  | a :: as, b :: bs, c :: cs, h1, h2 => by
    rw [lexlt_cons] at h1 h2 ⊢
    rcases h1 with h1 | ⟨rfl, h1⟩
    · rcases h2 with h2 | ⟨rfl, _⟩
      · exact .inl (UInt8.lt_trans h1 h2)
      · exact .inl h1
    · rcases h2 with h2 | ⟨rfl, h2⟩
      · exact .inl h2
      · exact .inr ⟨rfl, lexlt_trans h1 h2⟩
theorem lexlt_total : ∀ {a b : List UInt8}, a ≠ b → lexlt a b = true ∨ lexlt b a = true
  | [], [], h => absurd rfl h
  | [], _ :: _, _ => .inl rfl
  | _ :: _, [], _ => .inr rfl
  | a :: as, b :: bs, h => by
    rw [lexlt_cons, lexlt_cons]
    rcases UInt8.lt_or_lt_of_ne (a := a) (b := b) |> fun g => (Decidable.em (a = b)) with e | e
    · subst e
      rcases lexlt_total (a := as) (b := bs) (fun e => h (by rw [e])) with g | g
      · exact .inl (.inr ⟨rfl, g⟩)
      · exact .inr (.inr ⟨rfl, g⟩)
    · rcases UInt8.lt_or_lt_of_ne e with g | g
      · exact .inl (.inl g)
      · exact .inr (.inl g)
theorem lexlt_asymm {a b : List UInt8} (h : lexlt a b = true) : lexlt b a = false := by
  cases g : lexlt b a with
  | false => rfl
  | true => have := lexlt_trans h g; rw [lexlt_irrefl] at this; cases this
theorem lexlt_ne {a b : List UInt8} (h : lexlt a b = true) : a ≠ b := fun e => by subst e; rw [lexlt_irrefl] at h; cases h
theorem lexlt_take : ∀ (k : Nat) {a b : List UInt8}, lexlt (a.take k) (b.take k) = true → lexlt a b = true
  | 0, _, _, h => by simp [lexlt] at h
  | k + 1, [], [], h => by simp [lexlt] at h
  | k + 1, [], _ :: _, _ => rfl
  | k + 1, _ :: _, [], h => by simp [lexlt] at h
  | k + 1, a :: as, b :: bs, h => by
    rw [List.take_succ_cons, List.take_succ_cons, lexlt_cons] at h
    rw [lexlt_cons]
    rcases h with h | ⟨rfl, h⟩
    · exact .inl h
    · exact .inr ⟨rfl, lexlt_take k h⟩
theorem lexlt_app : ∀ {a a' c c' : List UInt8}, (a.length < a'.length → c = []) → (a'.length < a.length → c' = []) → (lexlt (a ++ c) (a' ++ c') = true ↔ lexlt a a' = true ∨ (a = a' ∧ lexlt c c' = true))
  | [], [], c, c', _, _ => by simp [lexlt]
  | [], x :: a', c, c', h, _ => by
    rw [h (by simp)]
    simp [lexlt]
  | x :: a, [], c, c', _, h => by
    rw [h (by simp)]
    simp [lexlt]
  | x :: a, y :: a', c, c', h, h' => by
    rw [List.cons_append, List.cons_append, lexlt_cons, lexlt_cons, lexlt_app (fun g => h (by simp; exact g)) (fun g => h' (by simp; exact g))]
    constructor
    · rintro (g | ⟨rfl, g | ⟨rfl, g⟩⟩)
      · exact .inl (.inl g)
      · exact .inl (.inr ⟨rfl, g⟩)
      · exact .inr ⟨rfl, g⟩
    · rintro ((g | ⟨rfl, g⟩) | ⟨g, q⟩)
      · exact .inl g
      · exact .inr ⟨rfl, .inl g⟩
      · cases g; exact .inr ⟨rfl, .inr ⟨rfl, q⟩⟩
/-- The beginning of a suffix. -/
def key (b : List UInt8) (k i : Nat) : List UInt8 := (b.drop i).take k
theorem key_two (b : List UInt8) (w i : Nat) : key b (2 * w) i = key b w i ++ key b w (i + w) := by
  unfold key
  rw [show 2 * w = w + w by omega, List.take_add, List.drop_drop]
theorem key_len (b : List UInt8) (k i : Nat) : (key b k i).length = min k (b.length - i) := by unfold key; rw [List.length_take, List.length_drop]
theorem key_nil {b : List UInt8} {k i : Nat} (h : b.length ≤ i) : key b k i = [] := by unfold key; rw [List.drop_of_length_le h, List.take_nil]
theorem key_lt {b : List UInt8} {k i j : Nat} (h : lexlt (key b k i) (key b k j) = true) : lexlt (b.drop i) (b.drop j) = true := lexlt_take k h
theorem key_ne {b : List UInt8} {k i j : Nat} (hi : i < b.length) (hj : j < b.length) (hk : b.length ≤ k) (h : i ≠ j) : key b k i ≠ key b k j := fun e => by
  have := congrArg List.length e
  rw [key_len, key_len] at this
  omega
theorem key_two_lt {b : List UInt8} {w i j : Nat} : lexlt (key b (2 * w) i) (key b (2 * w) j) = true ↔ lexlt (key b w i) (key b w j) = true ∨ (key b w i = key b w j ∧ lexlt (key b w (i + w)) (key b w (j + w)) = true) := by
  rw [key_two, key_two]
  refine lexlt_app (fun h => key_nil ?_) (fun h => key_nil ?_)
  · rw [key_len, key_len] at h; omega
  · rw [key_len, key_len] at h; omega
/-- Numbers that stand for the order by the first bytes. -/
def Rep (b : List UInt8) (K : Nat) (r : Nat → Nat) : Prop := ∀ i j, i < b.length → j < b.length → (r i < r j ↔ lexlt (key b K i) (key b K j) = true)
theorem Rep.eq {b : List UInt8} {K : Nat} {r : Nat → Nat} (h : Rep b K r) {i j : Nat} (hi : i < b.length) (hj : j < b.length) : r i = r j ↔ key b K i = key b K j := by
  constructor
  · intro e
    refine Classical.byContradiction fun g => ?_
    rcases lexlt_total g with g | g
    · have := (h i j hi hj).2 g; omega
    · have := (h j i hj hi).2 g; omega
  · intro e
    refine Classical.byContradiction fun g => ?_
    rcases (show r i < r j ∨ r j < r i by omega) with g | g
    · have := (h i j hi hj).1 g; rw [e, lexlt_irrefl] at this; cases this
    · have := (h j i hj hi).1 g; rw [e, lexlt_irrefl] at this; cases this
theorem rep_one (b : List UInt8) : Rep b 1 (fun i => (b.getD i 0).toNat) := fun i j hi hj => by
  have h1 : ∀ i, i < b.length → key b 1 i = [b.getD i 0] := fun i hi => by
    unfold key
    rw [List.drop_eq_getElem_cons hi, List.take_succ_cons, List.take_zero, List.getD_eq_getElem?_getD, List.getElem?_eq_getElem hi]; rfl
  rw [h1 i hi, h1 j hj, lexlt_cons]
  constructor
  · intro h; exact .inl (UInt8.lt_iff_toNat_lt.2 h)
  · rintro (h | ⟨_, h⟩)
    · exact UInt8.lt_iff_toNat_lt.1 h
    · cases h
/-- The second number of a key. -/
def sec (n : Nat) (r : Nat → Nat) (w i : Nat) : Int := if w = 0 then -1 else if i + w < n then (r (i + w) : Int) else -1
def keyLt (n : Nat) (r : Nat → Nat) (w i j : Nat) : Prop := r i < r j ∨ (r i = r j ∧ sec n r w i < sec n r w j)
instance (n : Nat) (r : Nat → Nat) (w i j : Nat) : Decidable (keyLt n r w i j) := by unfold keyLt; exact inferInstance
def nextK (w : Nat) : Nat := if w = 0 then 1 else 2 * w
/-- By keys: by twice as many bytes. -/
theorem keyLt_rep {b : List UInt8} {r : Nat → Nat} {w : Nat} (h : Rep b (max 1 w) r) {i j : Nat} (hi : i < b.length) (hj : j < b.length) : keyLt b.length r w i j ↔ lexlt (key b (nextK w) i) (key b (nextK w) j) = true := by
  unfold keyLt nextK
  by_cases hw : w = 0
  · subst hw
    rw [if_pos rfl]
    have e : ∀ i, sec b.length r 0 i = -1 := fun i => by unfold sec; rw [if_pos rfl]
    rw [e, e]
    have := h i j hi hj
    rw [show max 1 0 = 1 from rfl] at this
    constructor
    · rintro (g | ⟨_, g⟩)
      · exact this.1 g
      · omega
    · intro g; exact .inl (this.2 g)
  · rw [if_neg hw]
    rw [show max 1 w = w by omega] at h
    rw [key_two_lt, h i j hi hj, h.eq hi hj]
    refine or_congr Iff.rfl (and_congr Iff.rfl ?_)
    unfold sec
    rw [if_neg hw, if_neg hw]
    by_cases g1 : i + w < b.length
    · by_cases g2 : j + w < b.length
      · rw [if_pos g1, if_pos g2]
        have := h (i + w) (j + w) g1 g2
        rw [← this]
        omega
      · rw [if_pos g1, if_neg g2, key_nil (i := j + w) (by omega), lexlt_nil]
        constructor
        · intro q; omega
        · intro q; cases q
    · rw [if_neg g1, key_nil (i := i + w) (by omega)]
      by_cases g2 : j + w < b.length
      · rw [if_pos g2]
        have hl : (key b w (j + w)).length ≠ 0 := by rw [key_len]; omega
        cases hk : key b w (j + w) with
        | nil => rw [hk] at hl; exact absurd rfl hl
        | cons x xs =>
          constructor
          · intro _; rfl
          · intro _; omega
      · rw [if_neg g2, key_nil (i := j + w) (by omega)]
        constructor
        · intro q; omega
        · intro q; cases q
/-- How many classes come before, in a list in order. -/
def cN (f : Nat → List UInt8) : Nat → Nat
  | 0 => 0
  | t + 1 => cN f t + if f t = f (t + 1) then 0 else 1
theorem cN_mono (f : Nat → List UInt8) (s : Nat) : ∀ d, cN f s ≤ cN f (s + d)
  | 0 => Nat.le_refl _
  | d + 1 => by
    have := cN_mono f s d
    show cN f s ≤ cN f (s + d) + _
    omega
theorem cN_eq (f : Nat → List UInt8) (s : Nat) : ∀ d, cN f s = cN f (s + d) → f s = f (s + d)
  | 0, _ => rfl
  | d + 1, h => by
    have h1 := cN_mono f s d
    have h2 : cN f (s + (d + 1)) = cN f (s + d) + if f (s + d) = f (s + d + 1) then 0 else 1 := rfl
    by_cases e : f (s + d) = f (s + d + 1)
    · rw [if_pos e] at h2
      rw [cN_eq f s d (by omega), e]; rfl
    · rw [if_neg e] at h2; omega
theorem cN_le (f : Nat → List UInt8) : ∀ t, cN f t ≤ t
  | 0 => Nat.le_refl _
  | t + 1 => by
    have := cN_le f t
    show cN f t + (if f t = f (t + 1) then 0 else 1) ≤ t + 1
    split <;> omega
theorem cN_lt {f : Nat → List UInt8} {n : Nat} (hs : ∀ s t, s < t → t < n → lexlt (f t) (f s) = false) {s t : Nat} (hst : s < n) (ht : t < n) : cN f s < cN f t ↔ lexlt (f s) (f t) = true := by
  have key : ∀ s t, s < t → t < n → (cN f s < cN f t ↔ lexlt (f s) (f t) = true) := fun s t h ht => by
    obtain ⟨d, rfl⟩ : ∃ d, t = s + d := ⟨t - s, by omega⟩
    constructor
    · intro g
      have hne : f s ≠ f (s + d) := fun e => by
        -- all between are equal
        have hall : ∀ e', e' ≤ d → f (s + e') = f s := fun e' he => by
          refine Classical.byContradiction fun q => ?_
          have h0 : 0 < e' := Nat.pos_of_ne_zero fun z => by subst z; exact q rfl
          rcases lexlt_total q with q | q
          · rw [hs s (s + e') (by omega) (by omega)] at q; cases q
          · rw [e] at q
            by_cases e'' : e' = d
            · subst e''; rw [lexlt_irrefl] at q; cases q
            · rw [hs (s + e') (s + d) (by omega) ht] at q; cases q
        have hc : ∀ e', e' ≤ d → cN f (s + e') = cN f s := fun e' => by
          induction e' with
          | zero => intro _; rfl
          | succ e' ih =>
            intro he
            have h2 : cN f (s + (e' + 1)) = cN f (s + e') + if f (s + e') = f (s + e' + 1) then 0 else 1 := rfl
            rw [h2, if_pos (by rw [hall e' (by omega)]; exact (hall (e' + 1) he).symm), ih (by omega)]; rfl
        have := hc d (Nat.le_refl _)
        omega
      rcases lexlt_total hne with q | q
      · exact q
      · rw [hs s (s + d) h ht] at q; cases q
    · intro g
      have h1 := cN_mono f s d
      refine Classical.byContradiction fun q => ?_
      have := cN_eq f s d (by omega)
      exact lexlt_ne g this
  rcases (show s < t ∨ s = t ∨ t < s by omega) with h | h | h
  · exact key s t h ht
  · subst h
    rw [lexlt_irrefl]
    constructor
    · intro q; omega
    · intro q; cases q
  · have h1 := key t s h hst
    constructor
    · intro q
      obtain ⟨d, rfl⟩ : ∃ d, s = t + d := ⟨s - t, by omega⟩
      have := cN_mono f t d
      omega
    · intro q
      rw [hs t s h hst] at q; cases q
theorem cN_full {f : Nat → List UInt8} : ∀ {n : Nat}, cN f n = n → ∀ t, t < n → f t ≠ f (t + 1)
  | 0, _, t, h => by omega
  | n + 1, e, t, h => by
    have h1 := cN_le f n
    have h2 : cN f (n + 1) = cN f n + if f n = f (n + 1) then 0 else 1 := rfl
    by_cases g : f n = f (n + 1)
    · rw [if_pos g] at h2; omega
    · rw [if_neg g] at h2
      by_cases q : t = n
      · subst q; exact g
      · exact cN_full (n := n) (by omega) t (by omega)
theorem cN_dist {f : Nat → List UInt8} : ∀ {n : Nat}, (∀ t, t < n → f t ≠ f (t + 1)) → cN f n = n
  | 0, _ => rfl
  | n + 1, h => by
    show cN f n + (if f n = f (n + 1) then 0 else 1) = n + 1
    rw [if_neg (h n (by omega)), cN_dist (fun t ht => h t (by omega))]
end Go.Proofs.Ytcelkneeedebiaa
