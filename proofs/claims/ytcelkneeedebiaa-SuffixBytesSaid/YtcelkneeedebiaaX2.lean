/- Suffixes in order, plain: the order is one; what neighbours have in common; texts that are turned. -/
import Derived.Test.YtcelkneeedebiaaX1
namespace Go.Proofs.Ytcelkneeedebiaa

theorem perm_unique {α : Type} {R : α → α → Prop} (has : ∀ a b, R a b → R b a → False) : ∀ {l1 l2 : List α}, l1.Perm l2 → l1.Pairwise R → l2.Pairwise R → l1 = l2
  | [], l2, h, _, _ => (List.Perm.nil_eq h)
  | a :: as, [], h, _, _ => by have := h.length_eq; simp at this
  | a :: as, b :: bs, h, h1, h2 => by
    rw [List.pairwise_cons] at h1 h2
    have e : a = b := by
      refine Classical.byContradiction fun g => ?_
      have ha : a ∈ bs := by
        have : a ∈ b :: bs := h.subset (List.mem_cons_self)
        rcases List.mem_cons.1 this with q | q
        · exact absurd q g
        · exact q
      have hb : b ∈ as := by
        have : b ∈ a :: as := h.symm.subset (List.mem_cons_self)
        rcases List.mem_cons.1 this with q | q
        · exact absurd q.symm g
        · exact q
      exact has a b (h1.1 b hb) (h2.1 a ha)
    subst e
    rw [perm_unique has (List.Perm.cons_inv h) h1.2 h2.2]
def sufLt (b : List UInt8) (i j : Nat) : Prop := lexlt (b.drop i) (b.drop j) = true
/-- The order of a text. -/
def IsOrd (b : List UInt8) (l : List Nat) : Prop := l.Perm (List.range b.length) ∧ l.Pairwise (sufLt b)
theorem IsOrd.unique {b : List UInt8} {l1 l2 : List Nat} (h1 : IsOrd b l1) (h2 : IsOrd b l2) : l1 = l2 :=
  perm_unique (fun x y h g => by unfold sufLt at h g; rw [lexlt_asymm h] at g; cases g) (h1.1.trans h2.1.symm) h1.2 h2.2
theorem IsOrd.len {b : List UInt8} {l : List Nat} (h : IsOrd b l) : l.length = b.length := by have := h.1.length_eq; rwa [List.length_range] at this
theorem IsOrd.mem {b : List UInt8} {l : List Nat} (h : IsOrd b l) {i : Nat} : i ∈ l ↔ i < b.length := by rw [h.1.mem_iff, List.mem_range]
theorem IsOrd.nodup {b : List UInt8} {l : List Nat} (h : IsOrd b l) : l.Nodup := h.1.symm.nodup List.nodup_range
theorem IsOrd.lt {b : List UInt8} {l : List Nat} (h : IsOrd b l) {s t : Nat} (hst : s < t) (ht : t < l.length) : sufLt b (l[s]'(by omega)) l[t] := List.pairwise_iff_getElem.1 h.2 s t (by omega) ht hst
/-- What two texts have in common at their beginnings. -/
def sharedL : List UInt8 → List UInt8 → Nat
  | a :: as, b :: bs => if a = b then sharedL as bs + 1 else 0
  | _, _ => 0
theorem sharedL_nil (a : List UInt8) : sharedL a [] = 0 := by cases a <;> rfl
theorem sharedL_le : ∀ a b : List UInt8, sharedL a b ≤ a.length ∧ sharedL a b ≤ b.length
  | [], b => ⟨Nat.zero_le _, Nat.zero_le _⟩
  | a :: as, [] => ⟨Nat.zero_le _, Nat.zero_le _⟩
  | a :: as, b :: bs => by
    have := sharedL_le as bs
    unfold sharedL
    split
    · simp; omega
    · exact ⟨Nat.zero_le _, Nat.zero_le _⟩
theorem sharedL_self : ∀ a : List UInt8, sharedL a a = a.length
  | [] => rfl
  | a :: as => by unfold sharedL; rw [if_pos rfl, sharedL_self as]; rfl
theorem sharedL_comm : ∀ a b : List UInt8, sharedL a b = sharedL b a
  | [], b => by rw [sharedL_nil]; rfl
  | a :: as, [] => rfl
  | a :: as, b :: bs => by
    unfold sharedL
    by_cases h : a = b
    · subst h; rw [if_pos rfl, if_pos rfl, sharedL_comm as bs]
    · rw [if_neg h, if_neg (fun e => h e.symm)]
/-- Of three texts in order, the outer ones have in common what the neighbours have. -/
theorem lcp_mid : ∀ {a b c : List UInt8}, lexlt a b = true → lexlt b c = true → sharedL a c = min (sharedL a b) (sharedL b c)
  | [], b, c, _, _ => by simp [sharedL]
  | a :: as, [], c, h, _ => by cases h
  | a :: as, b :: bs, [], _, h => by cases h
  | a :: as, b :: bs, c :: cs, h1, h2 => by
    rw [lexlt_cons] at h1 h2
    unfold sharedL
    rcases h1 with h1 | ⟨rfl, h1⟩
    · have hab : a ≠ b := UInt8.ne_of_lt h1
      have hac : a ≠ c := by
        rcases h2 with h2 | ⟨rfl, _⟩
        · exact UInt8.ne_of_lt (UInt8.lt_trans h1 h2)
        · exact hab
      rw [if_neg hab, if_neg hac]; simp
    · rcases h2 with h2 | ⟨rfl, h2⟩
      · have hac : a ≠ c := UInt8.ne_of_lt h2
        rw [if_neg hac, if_neg hac]; simp
      · rw [if_pos rfl, lcp_mid h1 h2]
        simp only [if_true]
        omega
/-- A byte at the end that is less than all others. -/
theorem lexlt_end : ∀ {a b : List UInt8}, (∀ x ∈ b, (0 : UInt8) < x) → lexlt a b = true → lexlt (a ++ [0]) (b ++ [0]) = true
  | [], [], _, h => by cases h
  | [], b :: bs, hb, _ => by
    rw [List.nil_append, List.cons_append, lexlt_cons]
    exact .inl (hb b List.mem_cons_self)
  | a :: as, [], _, h => by cases h
  | a :: as, b :: bs, hb, h => by
    rw [lexlt_cons] at h
    rw [List.cons_append, List.cons_append, lexlt_cons]
    rcases h with h | ⟨rfl, h⟩
    · exact .inl h
    · exact .inr ⟨rfl, lexlt_end (fun x hx => hb x (List.mem_cons_of_mem _ hx)) h⟩
theorem ord_end {x : List UInt8} {old : List Nat} (h : IsOrd x old) (hx : ∀ c ∈ x, (0 : UInt8) < c) : IsOrd (x ++ [0]) (x.length :: old) := by
  refine ⟨?_, ?_⟩
  · rw [List.length_append, List.length_singleton, List.range_succ]
    exact (List.Perm.cons _ h.1).trans (List.perm_append_comm (l₁ := [x.length]) (l₂ := List.range x.length))
  · rw [List.pairwise_cons]
    refine ⟨fun i hi => ?_, ?_⟩
    · have hl := h.mem.1 hi
      unfold sufLt
      rw [List.drop_left' rfl, List.drop_append_of_le_length (by omega), List.drop_eq_getElem_cons hl, List.cons_append, lexlt_cons]
      exact .inl (hx _ (List.getElem_mem hl))
    · refine h.2.imp_of_mem fun {i j} hi hj hij => ?_
      have li := h.mem.1 hi
      have lj := h.mem.1 hj
      unfold sufLt at hij ⊢
      rw [List.drop_append_of_le_length (by omega), List.drop_append_of_le_length (by omega)]
      exact lexlt_end (fun c hc => hx c (List.mem_of_mem_drop hc)) hij
/-- A byte at the beginning. -/
theorem ord_begin {x : List UInt8} {c : UInt8} {m : List Nat} (h : IsOrd (c :: x) m) : IsOrd x ((m.filter fun i => decide (i ≠ 0)).map fun i => i - 1) := by
  refine ⟨?_, ?_⟩
  · have h1 := (h.1.filter fun i => decide (i ≠ 0)).map fun i => i - 1
    refine h1.trans (List.Perm.of_eq ?_)
    rw [List.length_cons, List.range_succ_eq_map, List.filter_cons, if_neg (by simp), List.filter_map, List.map_map]
    rw [List.filter_eq_self.2 (by intro i _; simp)]
    conv => rhs; rw [← List.map_id (List.range x.length)]
    exact List.map_congr_left fun i _ => by simp
  · rw [List.pairwise_map]
    have h2 := h.2.filter (fun i => decide (i ≠ 0))
    refine h2.imp_of_mem fun {i j} hi hj hij => ?_
    have hi0 : i ≠ 0 := by simpa using (List.mem_filter.1 hi).2
    have hj0 : j ≠ 0 := by simpa using (List.mem_filter.1 hj).2
    unfold sufLt at hij ⊢
    obtain ⟨i, rfl⟩ := Nat.exists_eq_succ_of_ne_zero hi0
    obtain ⟨j, rfl⟩ := Nat.exists_eq_succ_of_ne_zero hj0
    exact hij
/-- Other bytes in the same order. -/
theorem lexlt_map {g : UInt8 → UInt8} : ∀ {a b : List UInt8}, (∀ x ∈ a, ∀ y ∈ b, (g x < g y ↔ x < y) ∧ (g x = g y ↔ x = y)) → lexlt (a.map g) (b.map g) = lexlt a b
  | [], [], _ => rfl
  | [], _ :: _, _ => rfl
  | _ :: _, [], _ => rfl
  | a :: as, b :: bs, h => by
    have h0 := h a List.mem_cons_self b List.mem_cons_self
    have ih := lexlt_map (a := as) (b := bs) (fun x hx y hy => h x (List.mem_cons_of_mem _ hx) y (List.mem_cons_of_mem _ hy))
    rw [List.map_cons, List.map_cons, Bool.eq_iff_iff, lexlt_cons, lexlt_cons, ih, h0.1, h0.2]
theorem sharedL_map {g : UInt8 → UInt8} : ∀ {a b : List UInt8}, (∀ x ∈ a, ∀ y ∈ b, (g x = g y ↔ x = y)) → sharedL (a.map g) (b.map g) = sharedL a b
  | [], b, _ => rfl
  | a :: as, [], _ => rfl
  | a :: as, b :: bs, h => by
    have h0 := h a List.mem_cons_self b List.mem_cons_self
    have ih := sharedL_map (a := as) (b := bs) (fun x hx y hy => h x (List.mem_cons_of_mem _ hx) y (List.mem_cons_of_mem _ hy))
    rw [List.map_cons, List.map_cons]
    unfold sharedL
    by_cases e : a = b
    · rw [if_pos (h0.2 e), if_pos e, ih]
    · rw [if_neg (fun q => e (h0.1 q)), if_neg e]
theorem ord_map {x : List UInt8} {g : UInt8 → UInt8} {l : List Nat} (hg : ∀ a ∈ x, ∀ b ∈ x, (g a < g b ↔ a < b) ∧ (g a = g b ↔ a = b)) (h : IsOrd x l) : IsOrd (x.map g) l := by
  refine ⟨by rw [List.length_map]; exact h.1, h.2.imp fun {i j} hij => ?_⟩
  unfold sufLt at hij ⊢
  rw [← List.map_drop, ← List.map_drop, lexlt_map (fun a ha b hb => hg a (List.mem_of_mem_drop ha) b (List.mem_of_mem_drop hb))]
  exact hij
end Go.Proofs.Ytcelkneeedebiaa
