/- Suffixes in order, plain: what is found, as the laws ask it. -/
import Derived.Test.YtcelkneeedebiaaX5
namespace Go.Proofs.Ytcelkneeedebiaa

/-- The least place of those that have as much in common. -/
theorem found_at {b s : List UInt8} {l : List Nat} (h : IsOrd b l) {p L a : Nat} (hp : p ≤ l.length) (hlo : ∀ i, i < p → lexlt (b.drop (l.getD i 0)) s = true) (hhi : ∀ i, p ≤ i → i < l.length → lexlt (b.drop (l.getD i 0)) s = false)
    (hL : L = max (if 0 < p then sharedL (b.drop (l.getD (p - 1) 0)) s else 0) (if p < l.length then sharedL (b.drop (l.getD p 0)) s else 0)) (h0 : 0 < L)
    (h1 : ∃ t, t < l.length ∧ l.getD t 0 = a ∧ L ≤ sharedL (b.drop (l.getD t 0)) s) (h2 : ∀ t, t < l.length → L ≤ sharedL (b.drop (l.getD t 0)) s → a ≤ l.getD t 0) : IsFound b s a L := by
  have hmax : ∀ i, i < b.length → sharedL (b.drop i) s ≤ L := fun i hi => by
    obtain ⟨t, ht, e⟩ := List.mem_iff_getElem.1 (h.mem.2 hi)
    have := found_len h hp hlo hhi ht
    rw [getD_of ht, e] at this
    omega
  obtain ⟨t, ht, e, hs⟩ := h1
  have ha : a < b.length := by rw [← e, getD_of ht]; exact h.mem.1 (List.getElem_mem ht)
  rw [e] at hs
  refine .inr ⟨h0, ha, by have := hmax a ha; omega, hmax, fun i hi => ?_⟩
  obtain ⟨u, hu, e'⟩ := List.mem_iff_getElem.1 (h.mem.2 (show i < b.length by omega))
  have hm := hmax i (by omega)
  refine Nat.lt_of_le_of_ne hm fun q => ?_
  have := h2 u hu (by rw [getD_of hu, e', q]; exact Nat.le_refl _)
  rw [getD_of hu, e'] at this
  omega
theorem found_none {b s : List UInt8} {l : List Nat} (h : IsOrd b l) {p : Nat} (hp : p ≤ l.length) (hlo : ∀ i, i < p → lexlt (b.drop (l.getD i 0)) s = true) (hhi : ∀ i, p ≤ i → i < l.length → lexlt (b.drop (l.getD i 0)) s = false)
    (hL : max (if 0 < p then sharedL (b.drop (l.getD (p - 1) 0)) s else 0) (if p < l.length then sharedL (b.drop (l.getD p 0)) s else 0) = 0) : IsFound b s 0 0 := by
  refine .inl ⟨rfl, rfl, fun i hi => ?_⟩
  obtain ⟨t, ht, e⟩ := List.mem_iff_getElem.1 (h.mem.2 hi)
  have := found_len h hp hlo hhi ht
  rw [getD_of ht, e] at this
  omega
/-- What is found stands there. -/
theorem IsFound.stands {b s : List UInt8} {a L : Nat} (h : IsFound b s a L) : L ≤ s.length ∧ a + L ≤ b.length ∧ (L = 0 → a = 0) ∧ (b.drop a).take L = s.take L := by
  rcases h with ⟨rfl, rfl, _⟩ | ⟨h0, ha, hs, _, _⟩
  · exact ⟨Nat.zero_le _, Nat.zero_le _, fun _ => rfl, by rw [List.take_zero, List.take_zero]⟩
  · have hle := sharedL_le (b.drop a) s
    rw [hs, List.length_drop] at hle
    exact ⟨hle.2, by omega, fun h => by omega, shared_take L (by omega)⟩
theorem IsFound.most {b s : List UInt8} {a L : Nat} (h : IsFound b s a L) {i : Nat} (hi : i < b.length) : sharedL (b.drop i) s ≤ L ∧ (sharedL (b.drop i) s = L → 0 < L → a ≤ i) := by
  rcases h with ⟨rfl, rfl, h⟩ | ⟨h0, ha, hs, hm, hf⟩
  · exact ⟨by rw [h i hi]; exact Nat.le_refl _, fun _ _ => Nat.zero_le _⟩
  · exact ⟨hm i hi, fun e _ => by
      refine Nat.le_of_not_lt fun q => ?_
      have := hf i q
      omega⟩
theorem shared_part {b more : List UInt8} {i k : Nat} (hk : i + k ≤ b.length) : k ≤ sharedL (b.drop i) ((b.drop i).take k ++ more) := by
  have hl : ((b.drop i).take k).length = k := by rw [List.length_take, List.length_drop]; omega
  refine shared_of_take k (by rw [List.length_drop]; omega) (by rw [List.length_append]; omega) ?_
  rw [List.take_left' hl]
/-- Each part is found as a whole, at its place or before. -/
theorem found_part {b : List UInt8} {i k a L : Nat} (hk : i + k ≤ b.length) (h : IsFound b ((b.drop i).take k) a L) : L = k ∧ a ≤ i := by
  have hl : ((b.drop i).take k).length = k := by rw [List.length_take, List.length_drop]; omega
  have hs := shared_part (more := []) hk
  rw [List.append_nil] at hs
  have hle := (h.stands).1
  rw [hl] at hle
  by_cases hi : i < b.length
  · have hm := h.most hi
    have hL : L = k := by omega
    refine ⟨hL, ?_⟩
    by_cases h0 : 0 < L
    · exact hm.2 (by have := (sharedL_le (b.drop i) ((b.drop i).take k)).2; omega) h0
    · have := (h.stands).2.2.1 (by omega); omega
  · have : L = 0 := by omega
    have h2 := (h.stands).2.2.1 this
    exact ⟨by omega, by omega⟩
theorem found_longer {b more : List UInt8} {i k a L : Nat} (hk : i + k ≤ b.length) (h : IsFound b ((b.drop i).take k ++ more) a L) : k ≤ L := by
  have hs := shared_part (more := more) hk
  by_cases hi : i < b.length
  · have := (h.most hi).1; omega
  · omega
/-- The reference looks through all places in their order. -/
def bestTo (b s : List UInt8) : Nat → Nat × Nat
  | 0 => (0, 0)
  | i + 1 => if (bestTo b s i).2 < sharedL (b.drop i) s then (i, sharedL (b.drop i) s) else bestTo b s i
theorem bestTo_spec (b s : List UInt8) : ∀ i, i ≤ b.length → ((bestTo b s i).2 = 0 ∧ (bestTo b s i).1 = 0 ∧ ∀ j, j < i → sharedL (b.drop j) s = 0) ∨ (0 < (bestTo b s i).2 ∧ (bestTo b s i).1 < i ∧ sharedL (b.drop (bestTo b s i).1) s = (bestTo b s i).2 ∧ (∀ j, j < i → sharedL (b.drop j) s ≤ (bestTo b s i).2) ∧ ∀ j, j < (bestTo b s i).1 → sharedL (b.drop j) s < (bestTo b s i).2)
  | 0, _ => .inl ⟨rfl, rfl, fun j h => by omega⟩
  | i + 1, hi => by
    have ih := bestTo_spec b s i (by omega)
    unfold bestTo
    split
    · next g =>
      refine .inr ⟨by dsimp only; omega, by dsimp only; omega, rfl, fun j hj => ?_, fun j hj => ?_⟩
      · by_cases e : j = i
        · subst e; exact Nat.le_refl _
        · rcases ih with ⟨h1, _, h3⟩ | ⟨_, _, _, h4, _⟩
          · have := h3 j (by omega); dsimp only; omega
          · have := h4 j (by omega); dsimp only; omega
      · dsimp only at hj ⊢
        rcases ih with ⟨h1, _, h3⟩ | ⟨_, _, _, h4, _⟩
        · have := h3 j hj; omega
        · have := h4 j hj; omega
    · next g =>
      rcases ih with ⟨h1, h2, h3⟩ | ⟨h1, h2, h3, h4, h5⟩
      · refine .inl ⟨h1, h2, fun j hj => ?_⟩
        by_cases e : j = i
        · subst e; omega
        · exact h3 j (by omega)
      · refine .inr ⟨h1, by omega, h3, fun j hj => ?_, h5⟩
        by_cases e : j = i
        · subst e; omega
        · exact h4 j (by omega)
theorem bestTo_found (b s : List UInt8) : IsFound b s (bestTo b s b.length).1 (bestTo b s b.length).2 := by
  rcases bestTo_spec b s b.length (Nat.le_refl _) with ⟨h1, h2, h3⟩ | h
  · exact .inl ⟨h1, h2, h3⟩
  · exact .inr h
end Go.Proofs.Ytcelkneeedebiaa
