/- A region that draws its order of evaluation and holds calls that lay memory: the reads are taken first, in one walk; a call that is then the only operation that may come up is met by its contract; what remains reads, and its calls yield known values, in whatever has grown out of the world behind that call. -/
import Derived.OrdersHeld
import Derived.Lib.QuietBelow
import Derived.BigQuiet
namespace Go.Proofs.YtgblkaoioeceiaaDoor
open Go Go.RowKit Go.Sort

section
variable {P : Program} {ops : Array Oper} {Q : Exit → Act → World → Prop} {md : Region.Mode} {S : World → Prop}

/-- An operation that hands back a value, and calls no Go function. -/
def plainOp (o : Oper) : Bool :=
  match o.op with
  | .move _ => true | .assign _ => true | .pick .. => true | .build .. => true | .load .. => true | .binOp .. => true | .unOp .. => true | .convert .. => true
  | .slice .. => true | .fieldAddr .. => true | .field .. => true | .indexAddr .. => true | .index .. => true | .extract .. => true
  | .call c => match c.callee with | .builtin .len => true | .builtin .cap => true | .builtin .min => true | .builtin .max => true | _ => false
  | _ => false
theorem andThen_value {s : Result Value} {n : Next} {w' : World} (h : (s.andThen fun x w => .ok (.value x) w) = .ok n w') : ∃ v, n = .value v := by
  cases s with
  | ok v w1 => simp only [Result.andThen] at h; cases h; exact ⟨v, rfl⟩
  | halt x w1 => simp only [Result.andThen] at h; cases h
theorem plainOp_value {o : Oper} {e : Operand → Value} {w w' : World} {n : Next} (h : plainOp o = true) (hr : (execOp e o).run P w = .ok n w') : ∃ v, n = .value v := by
  unfold plainOp at h
  unfold execOp at hr
  split at h <;> rename_i ho <;> simp only [ho] at hr
  case h_15 c =>
    split at h <;> rename_i hc <;> simp only [resolve, invoke, builtin, hc, Sem.run_bind, Sem.run_pure, Result.andThen_ok] at hr
    · exact andThen_value hr
    · exact andThen_value hr
    · exact andThen_value hr
    · exact andThen_value hr
    · cases h
  case h_16 => cases h
  case h_3 c a b =>
    rw [Sem.run_bind] at hr
    cases hb : (asBool (e c)).run P w with
    | ok v w1 =>
      rw [hb] at hr
      simp only [Result.andThen_ok, Sem.run_pure] at hr
      cases hr
      exact ⟨_, rfl⟩
    | halt x w1 =>
      rw [hb] at hr
      simp only [Result.andThen] at hr
      cases hr
  all_goals first
    | exact andThen_value hr
    | (simp only [Sem.run_pure] at hr; cases hr; exact ⟨_, rfl⟩)
    | (simp only [Sem.run_bind, Sem.run_pure] at hr; exact andThen_value hr)

/-- What comes up, and what has come up behind it. -/
def setAll (listed : Array Bool) (is : List Nat) : Array Bool := is.foldl (fun l i => l.setIfInBounds i true) listed
/-- Each of these may come up when it is its turn, and nobody who could come before it touches its temporaries. -/
def orderB (md : Region.Mode) (ops : Array Oper) : List Nat → Array Bool → Bool
  | [], _ => true
  | i :: is, listed => (Region.ready md ops listed).contains i && Region.free md ops listed i && orderB md ops is (listed.setIfInBounds i true)
/-- The operations with these numbers. -/
def pickOps (l : List Oper) : List Nat → List Oper
  | [] => []
  | i :: is => match l[i]? with | some o => o :: pickOps l is | none => pickOps l is

theorem yieldsIf_of_quiet {o : Oper} {a : Act} {K : Act → Prop} (hp : plainOp o = true) (_hne : ∃ w, S w) (h : if Region.wanted o (yielded ops a.tmps) then o.quiet P a S K else K (a.put o.dst undef)) :
    ∃ v, YieldsIf P ops S o v a ∧ K (a.put o.dst v) := by
  split at h
  · rename_i hw
    obtain ⟨v, h1, h2⟩ := h
    refine ⟨v, .inl ⟨hw, fun w hS => ?_⟩, h2⟩
    have h3 := h1 w hS
    unfold Oper.quietAt at h3
    cases hr : (execOp a.eval o).run P w with
    | ok n w' =>
      obtain ⟨u, rfl⟩ := plainOp_value hp hr
      rw [hr] at h3
      obtain ⟨rfl, rfl⟩ := h3
      rfl
    | halt x w' =>
      rw [hr] at h3
      exact h3.elim
  · rename_i hw
    exact ⟨undef, .inr ⟨by simpa using hw, rfl⟩, h⟩

/-- **The reads first.** -/
theorem wpAnyH_reads {l : List Oper} {fuel : Nat} (hs : Region.noSelect l.toArray = true) (hQ : ∀ c a d v w, Q (.panic c) (Act.put a d v) w → Q (.panic c) a w) :
    ∀ (is : List Nat) (listed : Array Bool) (a : Act) (w : World), S w → orderB md l.toArray is listed = true → (pickOps l is).all plainOp = true →
      wpQuiet P l.toArray S (fun a1 => wpAnyH P md l.toArray Q S fuel (setAll listed is) a1 w) (pickOps l is) a →
      wpAnyH P md l.toArray Q S (is.length + fuel) listed a w
  | [], listed, a, w, _, _, _, h => by simpa [pickOps, wpQuiet, setAll] using h
  | i :: is, listed, a, w, hS, hB, hp, h => by
    simp only [orderB, Bool.and_eq_true] at hB
    obtain ⟨⟨hr, hf⟩, hB'⟩ := hB
    obtain ⟨o, ho⟩ : ∃ o, l[i]? = some o := by
      obtain ⟨_, o, ho, _⟩ := mem_ready.1 (by simpa using hr)
      exact ⟨o, by simpa using ho⟩
    have hpk : pickOps l (i :: is) = o :: pickOps l is := by rw [pickOps, ho]
    rw [hpk] at h hp
    simp only [List.all_cons, Bool.and_eq_true] at hp
    obtain ⟨v, hy, hK⟩ := yieldsIf_of_quiet hp.1 ⟨w, hS⟩ h
    rw [show (i :: is).length + fuel = (is.length + fuel) + 1 from by simp; omega]
    refine wpAnyH_take (by simpa using ho) hs hf hr (fun c a w => hQ c a _ _ w) hy hS ?_
    exact wpAnyH_reads hs hQ is (listed.setIfInBounds i true) (a.put o.dst v) w hS hB' hp.2 hK

/-- What is met behind an operation that lays memory: the class of the worlds turns. -/
theorem wpAnyH_mono {S' : World → Prop} (hSS : ∀ w, S' w → S w) : ∀ (fuel : Nat) (listed : Array Bool) (a : Act) (w : World), wpAnyH P md ops Q S' fuel listed a w → wpAnyH P md ops Q S fuel listed a w
  | 0, _, _, _, h => h
  | fuel + 1, _, _, _, h => ⟨h.1, fun i hi => wpOp_mono (fun a' w' h' => ⟨hSS _ h'.1, wpAnyH_mono hSS fuel _ a' w' h'.2⟩) (h.2 i hi)⟩

/-- The post of one operation. -/
def Behind (K : Act → World → Prop) (Q : Exit → Act → World → Prop) : Exit → Act → World → Prop
  | .normal, a, w => K a w
  | e, a, w => Q e a w
/-- **An operation that is the only one that may come up.** -/
theorem wpAnyH_one {l : List Oper} {i : Nat} {o : Oper} {fuel : Nat} {listed : Array Bool} {a : Act} {w : World} (hr : Region.ready md l.toArray listed = [i]) (ho : l[i]? = some o)
    (h : ∀ K : Act → World → Prop, (∀ a' w', S w' → wpAnyH P md l.toArray Q S fuel (listed.setIfInBounds i true) a' w' → K a' w') →
      if Region.wanted o (yielded l.toArray a.tmps) = true then Oper.wp P o a w K Q else K (a.put o.dst undef) w) : wpAnyH P md l.toArray Q S (fuel + 1) listed a w := by
  refine wpAnyH_all hr (by simp) fun j hj => ?_
  obtain rfl : j = i := by simpa using hj
  exact wpOp_step (by simpa using ho) fun K' hK => h K' fun a' w' hS' hH => hK _ _ ⟨hS', hH⟩

/-- All have come up, in whatever order, each quiet in the class. -/
theorem wpAnyH_of_quiet {C : World → Prop} {Q1 : Act → Prop} (hCS : ∀ w, C w → S w) (hQ : ∀ a w, C w → Q1 a → Q .normal a w) : ∀ (fuel : Nat) (listed : Array Bool) (a : Act) (w : World), C w →
    wpAnyQ P md ops C Q1 fuel listed a → wpAnyH P md ops Q S fuel listed a w
  | 0, _, _, _, hw, h => ⟨h.1, hQ _ _ hw h.2⟩
  | fuel + 1, _, _, _, hw, h => ⟨fun h0 => hQ _ _ hw (h.1 h0), fun i hi => wpOp_of_qOp hw (fun a' w' hw' h' => ⟨hCS _ hw', wpAnyH_of_quiet hCS hQ fuel _ a' w' hw' h'⟩) (h.2 i hi)⟩
theorem wpAnyQ_order {C : World → Prop} {l : List Oper} {Q1 : Act → Prop} (hs : Region.noSelect l.toArray = true) : ∀ (is : List Nat) (listed : Array Bool) (a : Act),
    orderB md l.toArray is listed = true → Region.ready md l.toArray (setAll listed is) = [] → wpQuiet P l.toArray C Q1 (pickOps l is) a → wpAnyQ P md l.toArray C Q1 is.length listed a
  | [], _, _, _, he, h => ⟨by simpa [setAll] using he, h⟩
  | i :: is, listed, a, hB, he, h => by
    simp only [orderB, Bool.and_eq_true] at hB
    obtain ⟨⟨hr, hf⟩, hB'⟩ := hB
    obtain ⟨o, ho⟩ : ∃ o, l[i]? = some o := by
      obtain ⟨_, o, ho, _⟩ := mem_ready.1 (by simpa using hr)
      exact ⟨o, by simpa using ho⟩
    have h0 : l.toArray[i]? = some o := by simpa using ho
    have hpk : pickOps l (i :: is) = o :: pickOps l is := by rw [pickOps, ho]
    rw [hpk] at h
    have hst : qOp P l.toArray C i (wpQuiet P l.toArray C Q1 (pickOps l is)) a := by unfold qOp; simp only [h0]; exact h
    obtain ⟨v, hy, hK⟩ := yieldsIn_of_qOp h0 hst
    exact wpAnyQ_first h0 (Region.noSelect_spec hs) is.length listed a (Region.free_spec h0 hf) (by simpa using hr) hy
      (wpAnyQ_order hs is _ _ hB' he hK)
/-- **The rest reads, and its calls yield known values.** -/
theorem wpAnyH_rest {C : World → Prop} {l : List Oper} {is : List Nat} {listed : Array Bool} {a : Act} {w : World} (hs : Region.noSelect l.toArray = true) (hB : orderB md l.toArray is listed = true) (he : Region.ready md l.toArray (setAll listed is) = [])
    (hCS : ∀ w, C w → S w) (hw : C w) (h : wpQuiet P l.toArray C (fun a' => ∀ w', C w' → Q .normal a' w') (pickOps l is) a) : wpAnyH P md l.toArray Q S is.length listed a w :=
  wpAnyH_of_quiet hCS (fun _ _ hw h => h _ hw) _ _ _ _ hw (wpAnyQ_order hs is listed a hB he h)

/-- What has grown out of a world. -/
abbrev Ext (w : World) : World → Prop := fun w' => ∃ p : Regrown, w' = grow (redrawn w p.d) p.os
theorem ext_refl (w : World) : Ext w w := regrown_of_below (Below.refl _ _)
theorem ext_below {w w' : World} (h : Ext w w') : Below w.heap.size w w' := by obtain ⟨p, rfl⟩ := h; exact below_regrown w p.d p.os
theorem ext_drew {w w' : World} (h : Ext w w') : Ext w w'.drew := regrown_of_below (ext_below h).drew
theorem ext_of {w w' : World} (h : Below w.heap.size w w') : Ext w w' := regrown_of_below h
theorem ext_trans {w w1 w' : World} (h : Ext w w1) (h' : Ext w1 w') : Ext w w' := regrown_of_below ((ext_below h).trans ((ext_below h').mono (ext_below h).size))

theorem wpQuiet_mono' {C : World → Prop} {Q1 Q2 : Act → Prop} (h : ∀ a, Q1 a → Q2 a) : ∀ (l : List Oper) (a : Act), wpQuiet P ops C Q1 l a → wpQuiet P ops C Q2 l a
  | [], a, hh => h a hh
  | o :: l, a, hh => by
    unfold wpQuiet at *
    split at hh
    · rename_i hw
      rw [if_pos hw]
      exact Oper.quiet_mono (fun a' => wpQuiet_mono' h l a') hh
    · rename_i hw
      rw [if_neg hw]
      exact wpQuiet_mono' h l _ hh

/-- **THE BEGINNING**, the reads, ONE call that lays memory, and the rest. -/
theorem wp_region_mix {id : Nat} {Q : Exit → Act → World → Prop} {a : Act} {w : World} {l : List Oper} (is1 : List Nat) (i : Nat) (is2 : List Nat) (o : Oper) (ho : l[i]? = some o) (hm : P.follows .mixedOrders = true)
    (hs : Region.noSelect l.toArray = true) (hQ : ∀ c a d v w, Q (.panic c) (Act.put a d v) w → Q (.panic c) a w)
    (hB1 : orderB .any l.toArray is1 (Array.replicate l.length false) = true) (hp : (pickOps l is1).all plainOp = true)
    (hr : Region.ready .any l.toArray (setAll (Array.replicate l.length false) is1) = [i])
    (hB2 : orderB .any l.toArray is2 ((setAll (Array.replicate l.length false) is1).setIfInBounds i true) = true)
    (he : Region.ready .any l.toArray (setAll ((setAll (Array.replicate l.length false) is1).setIfInBounds i true) is2) = [])
    (hlen : is1.length + (is2.length + 1) = l.length)
    (h : wpQuiet P l.toArray (Ext w) (fun a1 => ∀ K : Act → World → Prop,
        (∀ a' w', Ext w w' → wpQuiet P l.toArray (Ext w') (fun a3 => ∀ w3, Ext w' w3 → Q .normal a3 w3) (pickOps l is2) a' → K a' w') →
        if Region.wanted o (yielded l.toArray a1.tmps) = true then Oper.wp P o a1 w.drew K Q else K (a1.put o.dst undef) w.drew) (pickOps l is1) a) :
    (Code.region id l.toArray true).wp P Q a w := by
  refine wp_region_held (S := Ext w) hm ?_
  have key : wpAnyH P .any l.toArray Q (Ext w) (is1.length + (is2.length + 1)) (Array.replicate l.length false) a w.drew := by
    refine wpAnyH_reads hs hQ is1 _ a w.drew (ext_drew (ext_refl w)) hB1 hp ?_
    refine wpQuiet_mono' ?_ (pickOps l is1) a h
    intro a1 h1
    refine wpAnyH_one hr ho fun K hK => h1 K fun a' w' hw' hq => hK a' w' hw' ?_
    exact wpAnyH_rest hs hB2 he (fun w3 h3 => ext_trans hw' h3) (ext_refl w') hq
  rw [hlen] at key
  simpa using key
end
end Go.Proofs.YtgblkaoioeceiaaDoor
