/- Suffixes in order, plain: a byte at the beginning, other bytes; what the laws' loops need. -/
import Derived.Test.YtcelkneeedebiaaX6
namespace Go.Proofs.Ytcelkneeedebiaa

/-- How many of the first places are not the first one. -/
def nz (m : List Nat) (t : Nat) : Nat := ((m.take t).filter fun i => decide (i ≠ 0)).length
theorem nz_zero (m : List Nat) : nz m 0 = 0 := rfl
theorem nz_succ {m : List Nat} {t x : Nat} (h : m[t]? = some x) : nz m (t + 1) = nz m t + if x = 0 then 0 else 1 := by
  unfold nz
  rw [List.take_add_one, h, Option.toList_some, List.filter_append, List.length_append]
  congr 1
  by_cases e : x = 0
  · subst e; simp
  · simp [e]
theorem nz_at : ∀ {m : List Nat} {t x : Nat}, m[t]? = some x → x ≠ 0 → ((m.filter fun i => decide (i ≠ 0)).map fun i => i - 1)[nz m t]? = some (x - 1)
  | [], t, x, h, _ => by simp at h
  | y :: m, 0, x, h, hx => by
    simp at h
    subst h
    unfold nz
    rw [List.take_zero, List.filter_cons, if_pos (by simpa using hx)]
    rfl
  | y :: m, t + 1, x, h, hx => by
    have ih := nz_at (m := m) (t := t) (x := x) (by simpa using h) hx
    unfold nz at ih ⊢
    rw [List.take_succ_cons]
    by_cases e : y = 0
    · subst e
      rw [List.filter_cons, if_neg (by simp), List.filter_cons, if_neg (by simp)]
      exact ih
    · rw [List.filter_cons, if_pos (by simpa using e), List.filter_cons, if_pos (by simpa using e), List.map_cons, List.length_cons, List.getElem?_cons_succ]
      exact ih
theorem nz_all (m : List Nat) : nz m m.length = ((m.filter fun i => decide (i ≠ 0)).map fun i => i - 1).length := by
  unfold nz
  rw [List.take_length, List.length_map]
theorem begin_at {x : List UInt8} {c : UInt8} {m old : List Nat} (h : IsOrd (c :: x) m) (ho : IsOrd x old) {t y : Nat} (ht : m[t]? = some y) (hy : y ≠ 0) : old[nz m t]? = some (y - 1) := by
  have e := (ord_begin h).unique ho
  rw [← e]
  exact nz_at ht hy
theorem begin_all {x : List UInt8} {c : UInt8} {m old : List Nat} (h : IsOrd (c :: x) m) (ho : IsOrd x old) : nz m m.length = old.length := by
  rw [nz_all, (ord_begin h).unique ho]
/-- Bytes below 100, times 1 or 2, and something more. -/
theorem turn_byte {q : UInt8} (hq : q.toNat < 56) {k : UInt8} (hk : k = 1 ∨ k = 2) {a b : UInt8} (ha : a.toNat < 100) (hb : b.toNat < 100) : (k * a + q < k * b + q ↔ a < b) ∧ (k * a + q = k * b + q ↔ a = b) := by
  have h : ∀ c : UInt8, c.toNat < 100 → (k * c + q).toNat = k.toNat * c.toNat + q.toNat := fun c hc => by
    rw [UInt8.toNat_add, UInt8.toNat_mul]
    rcases hk with rfl | rfl
    · rw [show (1 : UInt8).toNat = 1 from rfl]; omega
    · rw [show (2 : UInt8).toNat = 2 from rfl]; omega
  rw [UInt8.lt_iff_toNat_lt, UInt8.lt_iff_toNat_lt, ← UInt8.toNat_inj, ← UInt8.toNat_inj, h a ha, h b hb]
  rcases hk with rfl | rfl
  · rw [show (1 : UInt8).toNat = 1 from rfl]; omega
  · rw [show (2 : UInt8).toNat = 2 from rfl]; omega
/-- Common does not change either. -/
theorem com_map {x : List UInt8} {g : UInt8 → UInt8} {l : List Nat} (hg : ∀ a ∈ x, ∀ b ∈ x, (g a = g b ↔ a = b)) : comL (x.map g) l = comL x l := by
  unfold comL
  refine List.map_congr_left fun t _ => ?_
  unfold comAt
  split
  · rfl
  · rw [← List.map_drop, ← List.map_drop]
    exact sharedL_map fun a ha b hb => hg a (List.mem_of_mem_drop ha) b (List.mem_of_mem_drop hb)
/-- The least in common so far. -/
def leastTo (b : List UInt8) (l : List Nat) (i : Nat) : Nat → Nat
  | 0 => b.length
  | d + 1 => min (leastTo b l i d) (comAt b l (i + d + 1))
theorem leastTo_shared {b : List UInt8} {l : List Nat} (h : IsOrd b l) {i : Nat} : ∀ d, i + d + 1 < l.length → sharedL (b.drop (l.getD i 0)) (b.drop (l.getD (i + d + 1) 0)) = leastTo b l i (d + 1)
  | 0, hd => by
    unfold leastTo leastTo comAt
    rw [if_neg (by omega), Nat.add_zero, Nat.add_sub_cancel]
    have := (sharedL_le (b.drop (l.getD i 0)) (b.drop (l.getD (i + 1) 0))).1
    rw [List.length_drop] at this
    omega
  | d + 1, hd => by
    have ih := leastTo_shared h (i := i) d (by omega)
    have h2 := com_least h (i := i) (k := i + d + 1) (by omega) (by omega)
    show sharedL _ (b.drop (l.getD (i + d + 1 + 1) 0)) = min (leastTo b l i (d + 1)) (comAt b l (i + (d + 1) + 1))
    rw [h2, ih]
    rfl
end Go.Proofs.Ytcelkneeedebiaa
