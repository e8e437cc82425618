/- A region that draws its order of evaluation: its operations but the last few read or call quietly; the last few, in one forced order, write. One walk, in the order of the text. -/
import Derived.StillTail
import Derived.Deep.Quiet
import Derived.Deep.QuietTactic
import Derived.BigQuiet
namespace Go.Proofs.YtgblkaoioeceiaaDoor
open Go

section
variable {P : Program} {md : Region.Mode}

/-- Each operation of the list waits for earlier ones alone, and its guard is an earlier one. -/
def backB (md : Region.Mode) (l : List Oper) : Bool :=
  (List.range l.length).all fun i => match l[i]? with
    | some o => o.after.all (fun e => !Region.binds md e || decide (e.on < i)) && (match o.guard with | some (j, _) => decide (j < i) | none => true)
    | none => true
theorem backB_spec {l : List Oper} (h : backB md l = true) {i : Nat} {o : Oper} (ho : l[i]? = some o) : (∀ e ∈ o.after, Region.binds md e = true → e.on < i) ∧ (∀ j b, o.guard = some (j, b) → j < i) := by
  have hi : i < l.length := (List.getElem?_eq_some_iff.1 ho).1
  have h1 := List.all_eq_true.1 h i (List.mem_range.2 hi)
  simp only [ho, Bool.and_eq_true] at h1
  refine ⟨fun e he hb => ?_, fun j b hg => ?_⟩
  · have h2 := Array.all_eq_true'.1 h1.1 e he
    simp only [hb, Bool.not_true, Bool.false_or, decide_eq_true_eq] at h2
    exact h2
  · have h2 := h1.2
    rw [hg] at h2
    simpa using h2

/-- The tail in its order, whatever fuel is left. -/
theorem wpAny_tail {ops : Array Oper} {Q : Exit → Act → World → Prop} (x : Nat) : ∀ (l : List Oper) (k : Nat) (listed : Array Bool) (a : Act) (w : World), (∀ j, l[j]? = ops[k + j]?) →
    Region.seqB md ops l.length k listed = true → wpList P ops Q l a w → wpAny P md ops Q (l.length + x) listed a w
  | [], _, _, _, _, _, hB, h => wpAny_done (by simpa [Region.seqB] using hB) h _
  | o :: l, k, listed, a, w, hl, hB, h => by
    have h0 : ops[k]? = some o := by simpa using (hl 0).symm
    simp only [List.length_cons, Region.seqB, Bool.and_eq_true, decide_eq_true_eq] at hB
    rw [show (o :: l).length + x = (l.length + x) + 1 from by simp; omega]
    refine ⟨fun h1 => (by rw [hB.1] at h1; cases h1), fun i hi => ?_⟩
    obtain rfl : i = k := by rw [hB.1] at hi; simpa using hi
    have hw : wpOp P ops Q i (wpList P ops Q l) a w := by unfold wpOp; simp only [h0]; exact h
    exact wpOp_mono (fun a' w' h' => wpAny_tail x l (i + 1) _ a' w' (fun j => by have := hl (j + 1); simpa [Nat.add_assoc, Nat.add_comm 1 j] using this) hB.2 h') hw

/-- All of the head have come up, none of the tail. -/
def headDone (n g : Nat) : Array Bool := (List.replicate n true ++ List.replicate g false).toArray

theorem ready_head {h t : List Oper} {listed : Array Bool} {i : Nat} (hi : i < h.length) : i ∈ Region.ready md (h ++ t).toArray listed ↔ i ∈ Region.ready md h.toArray listed := by
  rw [mem_ready, mem_ready]
  have e : (h ++ t).toArray[i]? = h.toArray[i]? := by simp [List.getElem?_append_left hi]
  rw [e]
theorem wanted_head {h t : List Oper} (hb : backB md h = true) {i : Nat} {o : Oper} (ho : h[i]? = some o) (ts : Array Value) : Region.wanted o (yielded (h ++ t).toArray ts) = Region.wanted o (yielded h.toArray ts) := by
  have hi : i < h.length := (List.getElem?_eq_some_iff.1 ho).1
  have hg := (backB_spec hb ho).2
  unfold Region.wanted
  cases hgu : o.guard with
  | none => rfl
  | some p =>
    obtain ⟨j, b⟩ := p
    have hj := hg j b hgu
    have e : yielded (h ++ t).toArray ts j = yielded h.toArray ts j := by
      unfold yielded
      rw [show (h ++ t).toArray[j]? = h.toArray[j]? from by simp [List.getElem?_append_left (show j < h.length by omega)]]
    simp only [e]

theorem head_done {h t : List Oper} {listed : Array Bool} (hb : backB md h = true) (inv : HeadInv md (h ++ t).toArray h.length listed) (hr : Region.ready md h.toArray listed = []) : listed = headDone h.length t.length := by
  have hall : ∀ i, i < h.length → listed.getD i true = true := by
    intro i
    induction i using Nat.strongRecOn with
    | _ i ih =>
      intro hi
      cases hl : listed.getD i true with
      | true => rfl
      | false =>
        have ho : h[i]? = some h[i] := List.getElem?_eq_getElem hi
        have hm : i ∈ Region.ready md h.toArray listed := mem_ready.2 ⟨hl, h[i], by simp, fun e he hbd => by
          have hlt := (backB_spec hb ho).1 e he hbd
          have h1 := ih e.on hlt (by omega)
          have hs : e.on < listed.size := by rw [inv.size]; simp; omega
          simp [hs] at h1 ⊢
          exact h1⟩
        rw [hr] at hm
        cases hm
  apply Array.ext
  · rw [inv.size]; simp [headDone]
  · intro i h1 h2
    have hs := inv.size
    by_cases hi : i < h.length
    · have := hall i hi
      simp [h1] at this
      rw [this]
      simp [headDone, hi]
    · have := inv.tail i (by omega) (by rw [← hs]; exact h1)
      simp [h1] at this
      rw [this]
      simp [headDone, List.getElem_append, hi]

theorem wpAny_of_quiet_head {h t : List Oper} {C : World → Prop} {Q1 : Act → Prop} {Q : Exit → Act → World → Prop} (hb : backB md h = true) (hs : Region.sinkB md (h ++ t).toArray h.length = true) (hc : Region.chainB md (h ++ t).toArray h.length = true) (ht : 0 < t.length)
    (hseq : Region.seqB md (h ++ t).toArray t.length h.length (headDone h.length t.length) = true) (hQ : ∀ a w, C w → Q1 a → wpList P (h ++ t).toArray Q t a w) :
    ∀ (f : Nat) (listed : Array Bool) (a : Act) (w : World), C w → HeadInv md (h ++ t).toArray h.length listed → wpAnyQ P md h.toArray C Q1 f listed a → wpAny P md (h ++ t).toArray Q (t.length + f) listed a w := by
  have fin : ∀ (f : Nat) (listed : Array Bool) (a : Act) (w : World), C w → HeadInv md (h ++ t).toArray h.length listed → Region.ready md h.toArray listed = [] → Q1 a → wpAny P md (h ++ t).toArray Q (t.length + f) listed a w := by
    intro f listed a w hw inv hr hq
    rw [head_done hb inv hr]
    exact wpAny_tail f t h.length _ a w (fun j => by simp [List.getElem?_append_right]) hseq (hQ a w hw hq)
  intro f
  induction f with
  | zero => intro listed a w hw inv hh; exact fin 0 listed a w hw inv hh.1 hh.2
  | succ f ih =>
    intro listed a w hw inv hh
    by_cases hr : Region.ready md h.toArray listed = []
    · exact fin (f + 1) listed a w hw inv hr (hh.1 hr)
    · obtain ⟨i0, hi0⟩ := List.exists_mem_of_ne_nil _ hr
      have hi0' := hi0
      obtain ⟨hun0, o0, ho0, _⟩ := mem_ready.1 hi0
      have hlt0 : i0 < h.length := by have := (Array.getElem?_eq_some_iff.1 ho0).1; simpa using this
      have hw0 := tail_waits hs hc (by simp; exact ht) inv _ i0 rfl hlt0 hun0
      refine ⟨fun e => absurd e (by
        have := (ready_head (t := t) hlt0).2 hi0'
        intro e
        rw [e] at this
        cases this), fun i hi => ?_⟩
      have hin : i < h.length := by
        rcases Nat.lt_or_ge i h.length with h1 | h1
        · exact h1
        · exact absurd hi (hw0 i h1)
      have hi' := (ready_head (t := t) hin).1 hi
      obtain ⟨_, o, ho, _⟩ := mem_ready.1 hi'
      have ho' : h[i]? = some o := by simpa using ho
      have hq := hh.2 i hi'
      have hq2 : qOp P (h ++ t).toArray C i (wpAnyQ P md h.toArray C Q1 f (listed.setIfInBounds i true)) a := by
        unfold qOp at hq ⊢
        rw [show (h ++ t).toArray[i]? = some o from by simp [List.getElem?_append_left hin, ho']]
        simp only [ho] at hq
        simp only
        rw [wanted_head hb ho']
        exact hq
      exact wpOp_of_qOp hw (fun a' w' hw' h' => ih _ a' w' hw' (inv.set hi hin) h') hq2

/-- **Reads and quiet calls, and a tail that writes.** -/
theorem wp_region_quiet_tail {id : Nat} {Q : Exit → Act → World → Prop} {a : Act} {w : World} {l : List Oper} (n : Nat) (hm : P.follows .mixedOrders = true) (hl : l.take n ++ l.drop n = l) (hn : (l.take n).length = n)
    (hsel : Region.noSelect (l.take n).toArray = true) (hlex : Region.lexFrom .any (l.take n).toArray (l.take n).length 0 (Array.replicate l.length false) = true) (hb : backB .any (l.take n) = true)
    (hs : Region.sinkB .any l.toArray n = true) (hc : Region.chainB .any l.toArray n = true) (ht : 0 < (l.drop n).length)
    (hseq : Region.seqB .any l.toArray (l.drop n).length n (headDone n (l.drop n).length) = true)
    (h : wpQuiet P (l.take n).toArray (fun w' => ∃ k, w' = w.drewN k) (fun a' => ∀ w', (∃ k, w' = w.drewN k) → wpList P l.toArray Q (l.drop n) a' w') (l.take n) a) : (Code.region id l.toArray true).wp P Q a w := by
  refine wp_region_any hm ?_
  have hq := wpAnyQ_lex (C := fun w' => ∃ k, w' = w.drewN k) (md := .any) hsel (l.take n) 0 (Array.replicate l.length false) a (by simp) hlex h
  have key := wpAny_of_quiet_head (P := P) (md := .any) (h := l.take n) (t := l.drop n) (C := fun w' => ∃ k, w' = w.drewN k) (Q1 := fun a' => ∀ w', (∃ k, w' = w.drewN k) → wpList P l.toArray Q (l.drop n) a' w') (Q := Q) hb
    (by rw [hl, hn]; exact hs) (by rw [hl, hn]; exact hc) ht (by rw [hl, hn]; exact hseq) (fun a w hw hq => by rw [hl]; exact hq w hw) (l.take n).length (Array.replicate l.length false) a w.drew ⟨1, rfl⟩
    (by
      rw [hl]
      refine ⟨by simp, fun j oj _ hl => (by rw [getD_replicate_false] at hl; cases hl), fun t _ ht => getD_in (by simpa using ht) (getD_replicate_false _ _)⟩) hq
  rw [hl] at key
  have e : (l.drop n).length + (l.take n).length = l.toArray.size := by rw [List.length_drop, hn]; simp; have := List.length_take_le n l; rw [hn] at this; have := List.length_take (i := n) (l := l); omega
  rw [e] at key
  simpa using key
end
end Go.Proofs.YtgblkaoioeceiaaDoor
