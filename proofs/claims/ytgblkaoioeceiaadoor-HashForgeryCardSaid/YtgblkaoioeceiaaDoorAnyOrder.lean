/- A region in any order, by what holds at each point of it. -/
import Derived.Test.YtgblkaoioeceiaaDoorHeadTail
namespace Go.Proofs.YtgblkaoioeceiaaDoor
open Go Go.RowKit Go.Sort

theorem depsB_spec {md : Region.Mode} {o : Oper} {listed : Array Bool} : (o.after.toList.all fun e => !Region.binds md e || listed.getD e.on false) = true ↔ ∀ e ∈ o.after, Region.binds md e = true → listed.getD e.on false = true := by
  rw [List.all_eq_true]
  constructor
  · intro h e he hb
    have := h e (by simpa using he)
    rw [hb] at this
    simpa using this
  · intro h e he
    cases hb : Region.binds md e with
    | false => rfl
    | true => simpa using h e (by simpa using he) hb
theorem wpAnyH_inv {P : Program} {md : Region.Mode} {ops : Array Oper} {Q : Exit → Act → World → Prop} {S : World → Prop} (I : Array Bool → Act → World → Prop)
    (hstep : ∀ listed a w, I listed a w → ∀ i, listed.getD i true = false → (∃ o, ops[i]? = some o ∧ (o.after.toList.all fun e => !Region.binds md e || listed.getD e.on false) = true) → wpOp P ops Q i (fun a' w' => S w' ∧ I (listed.setIfInBounds i true) a' w') a w)
    (hfin : ∀ listed a w, I listed a w → (∀ i o, ops[i]? = some o → listed.getD i true = false → (o.after.toList.all fun e => !Region.binds md e || listed.getD e.on false) = false) → Q .normal a w) (hsz : ∀ l a w, I l a w → l.size = ops.size) :
    ∀ (fuel : Nat) (listed : Array Bool) (a : Act) (w : World), (listed.toList.countP (· == false)) ≤ fuel → I listed a w → wpAnyH P md ops Q S fuel listed a w := by
  have fin : ∀ listed a w, I listed a w → Region.ready md ops listed = [] → Q .normal a w := by
    intro listed a w h hr
    refine hfin _ _ _ h fun i o ho hun => ?_
    cases hb : (o.after.toList.all fun e => !Region.binds md e || listed.getD e.on false) with
    | false => rfl
    | true =>
      have : i ∈ Region.ready md ops listed := mem_ready.2 ⟨hun, o, ho, depsB_spec.1 hb⟩
      rw [hr] at this
      cases this
  intro fuel
  induction fuel with
  | zero =>
    intro listed a w hc h
    have hr : Region.ready md ops listed = [] := by
      rcases hL : Region.ready md ops listed with _ | ⟨i, r⟩
      · rfl
      · exfalso
        have hi : i ∈ Region.ready md ops listed := by rw [hL]; simp
        obtain ⟨hun, o, ho, _⟩ := mem_ready.1 hi
        have hlt : i < ops.size := (Array.getElem?_eq_some_iff.1 ho).1
        have hs := hsz _ _ _ h
        have hf : listed[i]'(by omega) = false := by
          have : i < listed.size := by omega
          simpa [this] using hun
        have hp : 0 < listed.toList.countP (· == false) := List.countP_pos_iff.2 ⟨listed[i]'(by omega), by simp, by simp [hf]⟩
        omega
    exact ⟨hr, fin _ _ _ h hr⟩
  | succ fuel ih =>
    intro listed a w hc h
    refine ⟨fun hr => fin _ _ _ h hr, fun i hi => ?_⟩
    obtain ⟨hun, o, ho, hd⟩ := mem_ready.1 hi
    have hlt : i < ops.size := (Array.getElem?_eq_some_iff.1 ho).1
    have hs := hsz _ _ _ h
    have hlt' : i < listed.size := by omega
    have hf : listed[i] = false := by simpa [hlt'] using hun
    refine wpOp_mono (fun a' w' h' => ⟨h'.1, ih _ a' w' ?_ h'.2⟩) (hstep _ _ _ h i hun ⟨o, ho, depsB_spec.2 hd⟩)
    have e : (listed.setIfInBounds i true).toList = listed.toList.set i true := by simp
    rw [e, List.countP_set (by simpa using hlt')]
    have hp : 0 < listed.toList.countP (· == false) := List.countP_pos_iff.2 ⟨listed[i], by simp, by simp [hf]⟩
    simp [hf]
    simp at hc hp
    omega
end Go.Proofs.YtgblkaoioeceiaaDoor
