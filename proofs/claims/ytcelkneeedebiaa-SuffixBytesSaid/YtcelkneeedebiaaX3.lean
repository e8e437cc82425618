/- Suffixes in order, plain: what the rounds of doubling give; what is found. -/
import Derived.Test.YtcelkneeedebiaaX2
namespace Go.Proofs.Ytcelkneeedebiaa

/-- A list of places that is sorted by the first bytes. -/
def SortedK (b : List UInt8) (K : Nat) (l : List Nat) : Prop := l.Perm (List.range b.length) ∧ ∀ s t, s < t → t < b.length → lexlt (key b K (l.getD t 0)) (key b K (l.getD s 0)) = false
def fK (b : List UInt8) (K : Nat) (l : List Nat) : Nat → List UInt8 := fun t => key b K (l.getD t 0)
theorem SortedK.len {b : List UInt8} {K : Nat} {l : List Nat} (h : SortedK b K l) : l.length = b.length := by have := h.1.length_eq; rwa [List.length_range] at this
theorem getD_of {l : List Nat} {t : Nat} (h : t < l.length) : l.getD t 0 = l[t] := by rw [List.getD_eq_getElem?_getD, List.getElem?_eq_getElem h]; rfl
theorem SortedK.at_ {b : List UInt8} {K : Nat} {l : List Nat} (h : SortedK b K l) {i : Nat} (hi : i < b.length) : ∃ t, t < b.length ∧ l.getD t 0 = i := by
  have : i ∈ l := by rw [h.1.mem_iff, List.mem_range]; exact hi
  obtain ⟨t, ht, e⟩ := List.mem_iff_getElem.1 this
  exact ⟨t, by rw [← h.len]; exact ht, by rw [getD_of ht]; exact e⟩
/-- The classes before stand for the order by so many bytes. -/
theorem rep_next {b : List UInt8} {K : Nat} {l : List Nat} {r : Nat → Nat} (h : SortedK b K l) (hr : ∀ t, t < b.length → r (l.getD t 0) = cN (fK b K l) t) : Rep b K r := fun i j hi hj => by
  obtain ⟨s, hs, rfl⟩ := h.at_ hi
  obtain ⟨t, ht, rfl⟩ := h.at_ hj
  rw [hr s hs, hr t ht]
  exact cN_lt (f := fK b K l) (n := b.length) h.2 hs ht
/-- All classes are of one: the order is done. -/
theorem ord_done {b : List UInt8} {K : Nat} {l : List Nat} (h : SortedK b K l) (hn : 0 < b.length) (hc : cN (fK b K l) (b.length - 1) = b.length - 1) : IsOrd b l := by
  refine ⟨h.1, List.pairwise_iff_getElem.2 fun s t hs ht hst => ?_⟩
  rw [h.len] at hs ht
  have hd := cN_full hc
  have hlt : cN (fK b K l) s < cN (fK b K l) t := by
    rw [cN_dist (fun u hu => hd u (by omega)), cN_dist (fun u hu => hd u (by omega))]; exact hst
  have := (cN_lt (f := fK b K l) (n := b.length) h.2 hs ht).1 hlt
  have := key_lt this
  rwa [getD_of (by rw [h.len]; exact hs), getD_of (by rw [h.len]; exact ht)] at this
/-- With as many bytes as there are, all classes are of one. -/
theorem done_big {b : List UInt8} {K : Nat} {l : List Nat} (h : SortedK b K l) (hK : b.length ≤ K) : cN (fK b K l) (b.length - 1) = b.length - 1 := by
  refine cN_dist fun t ht => ?_
  unfold fK
  have h1 : t < l.length := by rw [h.len]; omega
  have h2 : t + 1 < l.length := by rw [h.len]; omega
  have nd : l.Nodup := h.1.symm.nodup List.nodup_range
  have m1 : l[t] < b.length := by have := (h.1.mem_iff).1 (List.getElem_mem h1); exact List.mem_range.1 this
  have m2 : l[t + 1] < b.length := by have := (h.1.mem_iff).1 (List.getElem_mem h2); exact List.mem_range.1 this
  rw [getD_of h1, getD_of h2]
  refine key_ne m1 m2 hK fun e => ?_
  exact (List.pairwise_iff_getElem.1 nd) t (t + 1) h1 h2 (by omega) e
theorem SortedK.of_ord {b : List UInt8} {l : List Nat} {K : Nat} (h : IsOrd b l) : SortedK b K l := by
  refine ⟨h.1, fun s t hst ht => ?_⟩
  have hl := h.len
  rw [getD_of (by omega), getD_of (by omega)]
  cases g : lexlt (key b K l[t]) (key b K l[s]) with
  | false => rfl
  | true =>
    have h1 := key_lt g
    have h2 := h.lt hst (by omega)
    unfold sufLt at h2
    rw [lexlt_asymm h2] at h1; cases h1
/-- What two texts have in common. -/
theorem shared_take : ∀ (n : Nat) {a s : List UInt8}, n ≤ sharedL a s → a.take n = s.take n
  | 0, _, _, _ => by rw [List.take_zero, List.take_zero]
  | n + 1, [], s, h => by have : sharedL [] s = 0 := rfl; omega
  | n + 1, a :: as, [], h => by rw [sharedL_nil] at h; omega
  | n + 1, a :: as, b :: bs, h => by
    unfold sharedL at h
    split at h
    · next e => subst e; rw [List.take_succ_cons, List.take_succ_cons, shared_take n (a := as) (s := bs) (by omega)]
    · omega
theorem shared_of_take : ∀ (n : Nat) {a s : List UInt8}, n ≤ a.length → n ≤ s.length → a.take n = s.take n → n ≤ sharedL a s
  | 0, _, _, _, _, _ => Nat.zero_le _
  | n + 1, [], s, h, _, _ => by simp at h
  | n + 1, a :: as, [], _, h, _ => by simp at h
  | n + 1, a :: as, b :: bs, h1, h2, h => by
    rw [List.take_succ_cons, List.take_succ_cons] at h
    injection h with h h'
    unfold sharedL
    rw [if_pos h]
    have := shared_of_take n (by simpa using h1) (by simpa using h2) h'
    omega
/-- The longest beginning of a text, and its first place. -/
def IsFound (b s : List UInt8) (at_ len : Nat) : Prop :=
  (len = 0 ∧ at_ = 0 ∧ ∀ i, i < b.length → sharedL (b.drop i) s = 0) ∨
  (0 < len ∧ at_ < b.length ∧ sharedL (b.drop at_) s = len ∧ (∀ i, i < b.length → sharedL (b.drop i) s ≤ len) ∧ ∀ i, i < at_ → sharedL (b.drop i) s < len)
theorem IsFound.unique {b s : List UInt8} {a1 l1 a2 l2 : Nat} (h1 : IsFound b s a1 l1) (h2 : IsFound b s a2 l2) : a1 = a2 ∧ l1 = l2 := by
  rcases h1 with ⟨rfl, rfl, h1⟩ | ⟨p1, q1, r1, m1, f1⟩
  · rcases h2 with ⟨rfl, rfl, _⟩ | ⟨p2, q2, r2, _, _⟩
    · exact ⟨rfl, rfl⟩
    · have := h1 a2 q2; omega
  · rcases h2 with ⟨rfl, rfl, h2⟩ | ⟨p2, q2, r2, m2, f2⟩
    · have := h2 a1 q1; omega
    · have hl : l1 = l2 := by have := m1 a2 q2; have := m2 a1 q1; omega
      subst hl
      refine ⟨?_, rfl⟩
      rcases (show a1 < a2 ∨ a1 = a2 ∨ a2 < a1 by omega) with g | g | g
      · have := f2 a1 g; omega
      · exact g
      · have := f1 a2 g; omega
/-- Towards the place of a text, more and more is in common. -/
theorem near_left {a b s : List UInt8} (h1 : lexlt a b = true) (h2 : lexlt b s = true) : sharedL a s ≤ sharedL b s := by
  rw [lcp_mid h1 h2]; omega
theorem near_right {a b s : List UInt8} (h1 : lexlt b s = false) (h2 : lexlt b a = true) : sharedL a s ≤ sharedL b s := by
  by_cases e : b = s
  · subst e
    rw [sharedL_self]
    exact (sharedL_le a b).2
  · rcases lexlt_total e with g | g
    · rw [g] at h1; cases h1
    · rw [sharedL_comm a s, sharedL_comm b s, lcp_mid g h2]; omega
/-- The neighbours of a text's place in the order decide. -/
theorem found_len {b s : List UInt8} {l : List Nat} (h : IsOrd b l) {p : Nat} (hp : p ≤ l.length) (hlo : ∀ i, i < p → lexlt (b.drop (l.getD i 0)) s = true) (hhi : ∀ i, p ≤ i → i < l.length → lexlt (b.drop (l.getD i 0)) s = false) {i : Nat} (hi : i < l.length) :
    sharedL (b.drop (l.getD i 0)) s ≤ max (if 0 < p then sharedL (b.drop (l.getD (p - 1) 0)) s else 0) (if p < l.length then sharedL (b.drop (l.getD p 0)) s else 0) := by
  by_cases hip : i < p
  · rw [if_pos (by omega)]
    by_cases e : i = p - 1
    · subst e; omega
    · have := h.lt (s := i) (t := p - 1) (by omega) (by omega)
      unfold sufLt at this
      have h2 := hlo (p - 1) (by omega)
      rw [getD_of (by omega)] at h2
      have := near_left this h2
      rw [getD_of hi, getD_of (show p - 1 < l.length by omega)]
      omega
  · rw [if_pos (show p < l.length by omega)]
    by_cases e : i = p
    · subst e; omega
    · have := h.lt (s := p) (t := i) (by omega) hi
      unfold sufLt at this
      have h2 := hhi p (Nat.le_refl _) (by omega)
      rw [getD_of (by omega)] at h2
      have := near_right h2 this
      rw [getD_of hi, getD_of (show p < l.length by omega)]
      omega
theorem mono_left {b s : List UInt8} {l : List Nat} (h : IsOrd b l) {p : Nat} (hp : p ≤ l.length) (hlo : ∀ i, i < p → lexlt (b.drop (l.getD i 0)) s = true) {i j : Nat} (hij : i ≤ j) (hj : j < p) : sharedL (b.drop (l.getD i 0)) s ≤ sharedL (b.drop (l.getD j 0)) s := by
  by_cases e : i = j
  · subst e; exact Nat.le_refl _
  · have := h.lt (s := i) (t := j) (by omega) (by omega)
    unfold sufLt at this
    have h2 := hlo j hj
    rw [getD_of (by omega)] at h2
    rw [getD_of (by omega), getD_of (by omega)]
    exact near_left this h2
theorem mono_right {b s : List UInt8} {l : List Nat} (h : IsOrd b l) {p : Nat} (hhi : ∀ i, p ≤ i → i < l.length → lexlt (b.drop (l.getD i 0)) s = false) {i j : Nat} (hij : i ≤ j) (hi : p ≤ i) (hj : j < l.length) : sharedL (b.drop (l.getD j 0)) s ≤ sharedL (b.drop (l.getD i 0)) s := by
  by_cases e : i = j
  · subst e; exact Nat.le_refl _
  · have := h.lt (s := i) (t := j) (by omega) (by omega)
    unfold sufLt at this
    have h2 := hhi i hi (by omega)
    rw [getD_of (by omega)] at h2
    rw [getD_of (by omega), getD_of (by omega)]
    exact near_right h2 this
end Go.Proofs.Ytcelkneeedebiaa
