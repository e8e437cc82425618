/- Suffixes in order, plain: the reference's order, by putting in. -/
import Derived.Test.YtcelkneeedebiaaX4
namespace Go.Proofs.Ytcelkneeedebiaa

/-- The places below a number, in order. -/
def OrdTo (b : List UInt8) (i : Nat) (l : List Nat) : Prop := l.Perm (List.range i) ∧ l.Pairwise (sufLt b)
theorem OrdTo.len {b : List UInt8} {i : Nat} {l : List Nat} (h : OrdTo b i l) : l.length = i := by have := h.1.length_eq; rwa [List.length_range] at this
theorem OrdTo.mem {b : List UInt8} {i : Nat} {l : List Nat} (h : OrdTo b i l) {j : Nat} : j ∈ l ↔ j < i := by rw [h.1.mem_iff, List.mem_range]
theorem suf_ne {b : List UInt8} {i j : Nat} (hi : i < b.length) (hj : j < b.length) (h : i ≠ j) : b.drop i ≠ b.drop j := fun e => by
  have := congrArg List.length e
  rw [List.length_drop, List.length_drop] at this
  omega
theorem ins_ord {b : List UInt8} {i p : Nat} {l : List Nat} (h : OrdTo b i l) (hi : i < b.length) (hp : p ≤ l.length) (hlo : ∀ t, t < p → lexlt (b.drop (l.getD t 0)) (b.drop i) = true) (hhi : p < l.length → lexlt (b.drop (l.getD p 0)) (b.drop i) = false) :
    OrdTo b (i + 1) (l.take p ++ i :: l.drop p) := by
  refine ⟨?_, ?_⟩
  · rw [List.range_succ]
    have h1 : (l.take p ++ i :: l.drop p).Perm (i :: (l.take p ++ l.drop p)) := List.perm_middle
    rw [List.take_append_drop] at h1
    exact (h1.trans (List.Perm.cons _ h.1)).trans (List.perm_append_comm (l₁ := [i]) (l₂ := List.range i))
  · have hpw := h.2
    rw [← List.take_append_drop p l, List.pairwise_append] at hpw
    obtain ⟨h1, h2, h3⟩ := hpw
    have hlt : ∀ a ∈ l.take p, sufLt b a i := fun a ha => by
      obtain ⟨t, ht, e⟩ := List.mem_iff_getElem.1 ha
      rw [List.length_take] at ht
      have := hlo t (by omega)
      rw [getD_of (by omega)] at this
      rw [List.getElem_take] at e
      rw [← e]; exact this
    have hgt : ∀ a ∈ l.drop p, sufLt b i a := fun a ha => by
      obtain ⟨t, ht, e⟩ := List.mem_iff_getElem.1 ha
      rw [List.length_drop] at ht
      rw [List.getElem_drop] at e
      have hpl : p < l.length := by omega
      have h0 := hhi hpl
      rw [getD_of hpl] at h0
      have hm : l[p] < i := h.mem.1 (List.getElem_mem hpl)
      have hfirst : sufLt b i l[p] := by
        rcases lexlt_total (suf_ne (b := b) (i := l[p]) (j := i) (by omega) hi (by omega)) with q | q
        · rw [q] at h0; cases h0
        · exact q
      by_cases t0 : t = 0
      · subst t0
        rw [← e]; exact hfirst
      · have := List.pairwise_iff_getElem.1 h.2 p (p + t) hpl (by omega) (by omega)
        rw [← e]
        exact lexlt_trans hfirst this
    rw [List.pairwise_append, List.pairwise_cons]
    refine ⟨h1, ⟨hgt, h2⟩, fun a ha c hc => ?_⟩
    rcases List.mem_cons.1 hc with rfl | hc
    · exact hlt a ha
    · exact h3 a ha c hc
theorem OrdTo.done {b : List UInt8} {l : List Nat} (h : OrdTo b b.length l) : IsOrd b l := h
/-- What neighbours have in common. -/
def comAt (b : List UInt8) (l : List Nat) (t : Nat) : Nat := if t = 0 then 0 else sharedL (b.drop (l.getD (t - 1) 0)) (b.drop (l.getD t 0))
def comL (b : List UInt8) (l : List Nat) : List Nat := (List.range l.length).map (comAt b l)
theorem comL_len (b : List UInt8) (l : List Nat) : (comL b l).length = l.length := by simp [comL]
theorem comL_at {b : List UInt8} {l : List Nat} {t : Nat} (h : t < l.length) : (comL b l)[t]? = some (comAt b l t) := by simp [comL, List.getElem?_map, List.getElem?_range h]
/-- Two suffixes have in common the least of what neighbours between them have. -/
theorem com_least {b : List UInt8} {l : List Nat} (h : IsOrd b l) {i k : Nat} (hik : i < k) (hk : k + 1 < l.length) :
    sharedL (b.drop (l.getD i 0)) (b.drop (l.getD (k + 1) 0)) = min (sharedL (b.drop (l.getD i 0)) (b.drop (l.getD k 0))) (comAt b l (k + 1)) := by
  have h1 := h.lt (s := i) (t := k) hik (by omega)
  have h2 := h.lt (s := k) (t := k + 1) (by omega) hk
  unfold sufLt at h1 h2
  unfold comAt
  rw [if_neg (by omega), Nat.add_sub_cancel, getD_of (by omega), getD_of (by omega), getD_of (by omega)]
  exact lcp_mid h1 h2
end Go.Proofs.Ytcelkneeedebiaa
