/- A region that draws its order, in which an operation may write into a block of its own, and so consume what is known of others. -/
import Derived.Test.YteofgkdpknaapaaFlow
namespace Go.Proofs.Yteofgkdpknaapaa
open Go Go.RowKit Go.Sort
section
/-- What an operation leaves: memory grows; or it writes, and what is known of the others that it does not consume stays. -/
def KeepC (l : List Oper) (w0 : World) (ds : List Nat) (Ts : List SpecF) (cb : List (Nat × Nat)) (i : Nat) (a : Act) (W W' : World) : Prop :=
  Below W.heap.size W W' ∨ (Ext w0 W' ∧ W.heap.size ≤ W'.heap.size ∧ ∀ j, j < l.length → j ≠ i → (j, i) ∉ cb → (∀ o, l[j]? = some o → i ∉ needOf o) → specF Ts j (a.eval (.tmp (ds.getD j 0))) W → specF Ts j (a.eval (.tmp (ds.getD j 0))) W')
def FlowStepC (P : Program) (l : List Oper) (Q : Exit → Act → World → Prop) (w0 : World) (a0 : Act) (ds : List Nat) (Ts : List SpecF) (cb : List (Nat × Nat)) (i : Nat) (o : Oper) : Prop :=
  ∀ (a : Act) (W : World), Ext w0 W → (∀ t, t ∉ ds → a.eval (.tmp t) = a0.eval (.tmp t)) → (∀ j ∈ needOf o, specF Ts j (a.eval (.tmp (ds.getD j 0))) W) →
    (Region.wanted o (yielded l.toArray a.tmps) = true → Val P Q o a W (fun v W' => KeepC l w0 ds Ts cb i a W W' ∧ (specF Ts i v W' ∧ FreshC (isFr Ts i) v W W'))) ∧ (Region.wanted o (yielded l.toArray a.tmps) = false → (specF Ts i undef W ∧ isFr Ts i = false))
def FlowAllC (P : Program) (l : List Oper) (Q : Exit → Act → World → Prop) (w0 : World) (a0 : Act) (ds : List Nat) (Ts : List SpecF) (cb : List (Nat × Nat)) : Nat → List Oper → Prop
  | _, [] => True
  | i, o :: os => FlowStepC P l Q w0 a0 ds Ts cb i o ∧ FlowAllC P l Q w0 a0 ds Ts cb (i + 1) os
theorem FlowAllC.at_ {P : Program} {l : List Oper} {Q : Exit → Act → World → Prop} {w0 : World} {a0 : Act} {ds : List Nat} {Ts : List SpecF} {cb : List (Nat × Nat)} : ∀ {os : List Oper} {k i : Nat} {o : Oper}, FlowAllC P l Q w0 a0 ds Ts cb k os → os[i]? = some o → FlowStepC P l Q w0 a0 ds Ts cb (k + i) o
  | [], k, i, o, _, h => by simp at h
  | x :: os, k, 0, o, h, e => by simp at e; subst e; exact h.1
  | x :: os, k, i + 1, o, h, e => by
    simp at e
    have := FlowAllC.at_ h.2 e
    rwa [show k + 1 + i = k + (i + 1) by omega] at this
/-- Memory grows: so it does with a step of the elder kind. -/
theorem FlowStepF.toC {P : Program} {l : List Oper} {Q : Exit → Act → World → Prop} {w0 : World} {a0 : Act} {ds : List Nat} {Ts : List SpecF} {cb : List (Nat × Nat)} {i : Nat} {o : Oper} (h : FlowStepF P l.toArray Q w0 a0 ds Ts i o) : FlowStepC P l Q w0 a0 ds Ts cb i o := fun a W hE hb hs => by
  obtain ⟨h1, h2⟩ := h a W hE hb hs
  exact ⟨fun hw K hK => h1 hw K (fun v W' hR => hK v W' ⟨.inl hR.1, hR.2⟩), h2⟩
/-- Whoever needs what is consumed is the consumer, or is waited for by it. -/
def consOk (l : List Oper) (cb : List (Nat × Nat)) : Bool :=
  cb.all fun p => (List.range l.length).all fun i => match l[i]? with
    | none => true
    | some o => !(needOf o).contains p.1 || i == p.2 || (match l[p.2]? with | none => false | some o2 => (needOf o2).contains i)
theorem consOk_at {l : List Oper} {cb : List (Nat × Nat)} (h : consOk l cb = true) {j k i : Nat} {o : Oper} (hc : (j, k) ∈ cb) (ho : l[i]? = some o) (hj : j ∈ needOf o) : i = k ∨ ∃ o2, l[k]? = some o2 ∧ i ∈ needOf o2 := by
  unfold consOk at h
  have h1 := List.all_eq_true.1 h _ hc
  have h2 := List.all_eq_true.1 h1 i (by rw [List.mem_range]; exact (List.getElem?_eq_some_iff.1 ho).1)
  simp only [ho] at h2
  by_cases hik : i = k
  · exact .inl hik
  · right
    cases e : l[k]? with
    | none => rw [e] at h2; simp [hj, hik] at h2
    | some o2 =>
      rw [e] at h2
      simp only [Bool.or_eq_true, Bool.not_eq_true', beq_iff_eq, List.contains_eq_mem, decide_eq_true_eq, decide_eq_false_iff_not] at h2
      rcases h2 with (h2 | h2) | h2
      · exact absurd hj h2
      · exact absurd h2 hik
      · exact ⟨o2, rfl, h2⟩
section
variable {P : Program} {Q : Exit → Act → World → Prop} {l : List Oper} {w0 : World} {a0 : Act} {ds : List Nat} {Ts : List SpecF} {cb : List (Nat × Nat)}
/-- What holds on the way. -/
structure FlowInvC (l : List Oper) (w0 : World) (a0 : Act) (ds : List Nat) (Ts : List SpecF) (cb : List (Nat × Nat)) (L : Array Bool) (a : Act) (W : World) : Prop where
  ext : Ext w0 W
  size : a.tmps.size = a0.tmps.size
  defers : a.defers = a0.defers
  base : ∀ t, t ∉ ds → a.eval (.tmp t) = a0.eval (.tmp t)
  closed : ∀ (i : Nat) (o : Oper), l[i]? = some o → L.getD i false = true → ∀ j ∈ needOf o, L.getD j false = true
  spec : ∀ i, i < l.length → L.getD i false = true → (∀ k, (i, k) ∈ cb → L.getD k false = false) → specF Ts i (a.eval (.tmp (ds.getD i 0))) W
  ptr : ∀ i, i < l.length → L.getD i false = true → isFr Ts i = true → ∃ B, a.eval (.tmp (ds.getD i 0)) = .pointer (some ⟨B, 0, none⟩) ∧ w0.heap.size ≤ B ∧ B < W.heap.size
  apart : ∀ i j, i < l.length → j < l.length → i ≠ j → L.getD i false = true → L.getD j false = true → isFr Ts i = true → isFr Ts j = true → a.eval (.tmp (ds.getD i 0)) ≠ a.eval (.tmp (ds.getD j 0))
theorem flow_goC (hds : l.map (·.dst) = ds.map some) (hnd : ds.Nodup) (hlt : ∀ d ∈ ds, d < a0.tmps.size) (hb : backOk 0 l = true) (hcb : consOk l cb = true) (hst : FlowAllC P l Q w0 a0 ds Ts cb 0 l)
    (hend : ∀ (f : Nat → Value) (W : World), Ext w0 W → (∀ i, i < l.length → (∀ k, (i, k) ∉ cb) → specF Ts i (f (ds.getD i 0)) W) → (∀ i, i < l.length → isFr Ts i = true → ∃ B, f (ds.getD i 0) = .pointer (some ⟨B, 0, none⟩) ∧ w0.heap.size ≤ B ∧ B < W.heap.size) → (∀ i j, i < l.length → j < l.length → i ≠ j → isFr Ts i = true → isFr Ts j = true → f (ds.getD i 0) ≠ f (ds.getD j 0)) → Q .normal (putV ds f a0) W) :
    ∀ (fuel : Nat) (L : Array Bool) (a : Act) (W : World), l.length ≤ L.size → (L.toList.take l.length).count false ≤ fuel → FlowInvC l w0 a0 ds Ts cb L a W → wpAnyH P .any l.toArray Q (Ext w0) fuel L a W := by
  have fin : ∀ (L : Array Bool) (a : Act) (W : World), l.length ≤ L.size → FlowInvC l w0 a0 ds Ts cb L a W → Region.ready .any l.toArray L = [] → Q .normal a W := fun L a W hL h hr => by
    have hd := all_doneF hL hb hr
    have := hend (fun d => a.eval (.tmp d)) W h.ext (fun i hi hc => h.spec i hi (hd i hi) (fun k hk => absurd hk (hc k))) (fun i hi => h.ptr i hi (hd i hi)) (fun i j hi hj hij => h.apart i j hi hj hij (hd i hi) (hd j hj))
    rwa [putV_eq ds a a0 h.size h.defers h.base] at this
  have hlen : ds.length = l.length := by have := congrArg List.length hds; simpa using this.symm
  intro fuel
  induction fuel with
  | zero =>
    intro L a W hL hc hI
    have hr : Region.ready .any l.toArray L = [] := by
      cases hr : Region.ready .any l.toArray L with
      | nil => rfl
      | cons j js =>
        have hj : j ∈ Region.ready .any l.toArray L := by rw [hr]; simp
        obtain ⟨hj1, o, ho, _⟩ := mem_ready.1 hj
        have hjn : j < l.length := by
          rw [List.getElem?_toArray] at ho
          exact (List.getElem?_eq_some_iff.1 ho).1
        have hjl : j < L.size := by omega
        have : false ∈ L.toList.take l.length := by
          have h1 : L[j] = false := by simpa [Array.getD_eq_getD_getElem?, Array.getElem?_eq_getElem hjl] using hj1
          refine List.mem_iff_getElem?.2 ⟨j, ?_⟩
          rw [List.getElem?_take, if_pos hjn, Array.getElem?_toList, Array.getElem?_eq_getElem hjl, h1]
        have := List.count_pos_iff.2 this
        omega
    exact ⟨hr, fin L a W hL hI hr⟩
  | succ fuel ih =>
    intro L a W hL hc hI
    refine ⟨fun hr => fin L a W hL hI hr, fun i hi => ?_⟩
    obtain ⟨hi1, o, ho, hdep⟩ := mem_ready.1 hi
    have ho' : l[i]? = some o := by rw [List.getElem?_toArray] at ho; exact ho
    have hil : i < l.length := (List.getElem?_eq_some_iff.1 ho').1
    have hdst : o.dst = some (ds.getD i 0) := by
      have := congrArg (·[i]?) hds
      simp only [List.getElem?_map, ho', Option.map_some] at this
      rw [List.getElem?_eq_getElem (by rw [hlen]; exact hil)] at this
      simp only [Option.map_some, Option.some.injEq] at this
      rw [this, List.getD_eq_getElem?_getD, List.getElem?_eq_getElem (by rw [hlen]; exact hil)]
      rfl
    have hmem : ∀ j, j < l.length → ds.getD j 0 ∈ ds := fun j hj => by
      rw [List.getD_eq_getElem?_getD, List.getElem?_eq_getElem (by rw [hlen]; exact hj)]
      exact List.getElem_mem _
    have hne : ∀ j, j < l.length → j ≠ i → ds.getD i 0 ≠ ds.getD j 0 := fun j hj hji e => by
      have e1 : ds.getD i 0 = ds[i]'(by rw [hlen]; exact hil) := by rw [List.getD_eq_getElem?_getD, List.getElem?_eq_getElem]; rfl
      have e2 : ds.getD j 0 = ds[j]'(by rw [hlen]; exact hj) := by rw [List.getD_eq_getElem?_getD, List.getElem?_eq_getElem]; rfl
      rw [e1, e2] at e
      exact hji (nodup_inj hnd (by rw [hlen]; exact hj) (by rw [hlen]; exact hil) e.symm)
    have hstep := hst.at_ ho'
    rw [Nat.zero_add] at hstep
    obtain ⟨s1, s2⟩ := hstep a W hI.ext hI.base (fun j hj => by
      obtain ⟨e, he, hbe, rfl⟩ := mem_needOf.1 hj
      have hlt' := backOk_at hb ho' e.on hj
      refine hI.spec e.on (by omega) (hdep e he hbe) (fun k hk => ?_)
      rcases consOk_at hcb hk ho' hj with rfl | ⟨o2, ho2, hi2⟩
      · rw [getD_L (by omega) false true]; exact hi1
      · cases hLk : L.getD k false with
        | false => rfl
        | true =>
          have := hI.closed k o2 ho2 hLk i hi2
          rw [getD_L (by omega) false true, hi1] at this
          cases this)
    have next : ∀ (v : Value) (W' : World), KeepC l w0 ds Ts cb i a W W' → specF Ts i v W' → FreshC (isFr Ts i) v W W' → Ext w0 W' ∧ wpAnyH P .any l.toArray Q (Ext w0) fuel (L.setIfInBounds i true) (a.put o.dst v) W' := fun v W' hkW hT hF => by
      have hE' : Ext w0 W' := by
        rcases hkW with h | h
        · exact ext_trans hI.ext (ext_of h)
        · exact h.1
      have hsW : W.heap.size ≤ W'.heap.size := by
        rcases hkW with h | h
        · exact h.size
        · exact h.2.1
      have other : ∀ j, j < l.length → j ≠ i → Act.eval (a.put o.dst v) (.tmp (ds.getD j 0)) = a.eval (.tmp (ds.getD j 0)) := fun j hj e => by
        rw [hdst]
        unfold Act.eval Act.put
        simp only [Array.getD_eq_getD_getElem?]
        rw [Array.getElem?_setIfInBounds_ne (hne j hj e)]
      have self : Act.eval (a.put o.dst v) (.tmp (ds.getD i 0)) = v := by
        have hd := hlt _ (hmem i hil)
        rw [hdst]
        unfold Act.eval Act.put
        simp only [Array.getD_eq_getD_getElem?, Array.getElem?_setIfInBounds_self]
        rw [if_pos (by rw [hI.size]; exact hd)]; rfl
      have done : ∀ j, j ≠ i → (L.setIfInBounds i true).getD j false = true → L.getD j false = true := fun j e hjd => by
        simp only [Array.getD_eq_getD_getElem?] at hjd ⊢
        rwa [Array.getElem?_setIfInBounds_ne (fun h => e h.symm)] at hjd
      have fresh : isFr Ts i = true → ∃ B, v = .pointer (some ⟨B, 0, none⟩) ∧ W.heap.size ≤ B ∧ B < W'.heap.size := fun h => by
        rw [h] at hF; exact hF
      refine ⟨hE', ih _ _ _ (by simpa using hL) ?_ ⟨hE', by rw [hdst]; simpa [Act.put] using hI.size, by rw [hdst]; simpa [Act.put] using hI.defers, fun t ht => ?_, fun j o2 ho2 hjd q hq => ?_, fun j hj hjd hcons => ?_, fun j hj hjd hfr => ?_, fun j k hj hk hjk hjd hkd hjf hkf => ?_⟩⟩
      · have hLi : (L.toList.take l.length)[i]? = some false := by
          have : L.getD i true = false := hi1
          rw [Array.getD_eq_getD_getElem?, Array.getElem?_eq_getElem (by omega)] at this
          rw [List.getElem?_take, if_pos hil, Array.getElem?_toList, Array.getElem?_eq_getElem (by omega)]
          simpa using this
        have := count_set_L hLi
        rw [Array.toList_setIfInBounds, List.take_set]
        omega
      · rw [hdst, ← hI.base t ht]
        unfold Act.eval Act.put
        simp only [Array.getD_eq_getD_getElem?]
        rw [Array.getElem?_setIfInBounds_ne (fun e => ht (by rw [← e]; exact hmem i hil))]
      · have hq2 : L.getD q false = true := by
          by_cases e : j = i
          · subst e
            rw [ho'] at ho2
            cases ho2
            obtain ⟨e, he, hbe, rfl⟩ := mem_needOf.1 hq
            exact hdep e he hbe
          · exact hI.closed j o2 ho2 (done j e hjd) q hq
        by_cases e : q = i
        · subst e
          rw [getD_L (by omega) false true, hi1] at hq2; cases hq2
        · simp only [Array.getD_eq_getD_getElem?] at hq2 ⊢
          rwa [Array.getElem?_setIfInBounds_ne (fun h => e h.symm)]
      · by_cases e : j = i
        · subst e; rw [self]; exact hT
        · rw [other j hj e]
          have hnc : ∀ k, (j, k) ∈ cb → L.getD k false = false := fun k hk => by
            have h1 := hcons k hk
            by_cases e2 : k = i
            · subst e2; rw [getD_L (by omega) false true]; exact hi1
            · simp only [Array.getD_eq_getD_getElem?] at h1 ⊢
              rwa [Array.getElem?_setIfInBounds_ne (fun h => e2 h.symm)] at h1
          have hni : (j, i) ∉ cb := fun hk => by
            have h1 := hcons i hk
            simp only [Array.getD_eq_getD_getElem?] at h1
            rw [Array.getElem?_setIfInBounds_self, if_pos (by omega)] at h1
            cases h1
          have hsp := hI.spec j hj (done j e hjd) hnc
          rcases hkW with h | h
          · exact (Ts.getD j (Spec.any, false)).1.st _ _ _ hsp h
          · exact h.2.2 j hj e hni (fun o2 ho2 hq => by
              have := hI.closed j o2 ho2 (done j e hjd) i hq
              rw [getD_L (by omega) false true, hi1] at this
              cases this) hsp
      · by_cases e : j = i
        · subst e
          rw [self]
          obtain ⟨B, h1, h2, h3⟩ := fresh hfr
          exact ⟨B, h1, by have := (ext_below hI.ext).size; omega, h3⟩
        · rw [other j hj e]
          obtain ⟨B, h1, h2, h3⟩ := hI.ptr j hj (done j e hjd) hfr
          exact ⟨B, h1, h2, Nat.lt_of_lt_of_le h3 hsW⟩
      · by_cases e : j = i
        · subst e
          rw [self, other k hk (fun h => hjk h.symm)]
          obtain ⟨B, h1, h2, h3⟩ := fresh hjf
          obtain ⟨B', h1', h2', h3'⟩ := hI.ptr k hk (done k (fun h => hjk h.symm) hkd) hkf
          rw [h1, h1']
          intro h
          injection h with h; injection h with h; injection h with h
          omega
        · by_cases e2 : k = i
          · subst e2
            rw [self, other j hj e]
            obtain ⟨B, h1, h2, h3⟩ := fresh hkf
            obtain ⟨B', h1', h2', h3'⟩ := hI.ptr j hj (done j e hjd) hjf
            rw [h1, h1']
            intro h
            injection h with h; injection h with h; injection h with h
            omega
          · rw [other j hj e, other k hk e2]
            exact hI.apart j k hj hk hjk (done j e hjd) (done k e2 hkd) hjf hkf
    refine wpOp_step ho fun K hK => ?_
    split
    · next hw => exact s1 hw K (fun v W' hR => hK _ _ (next v W' hR.1 hR.2.1 hR.2.2))
    · next hw =>
      obtain ⟨t1, t2⟩ := s2 (by simpa using hw)
      exact hK _ _ (next undef W (.inl (Below.refl _ _)) t1 (by rw [t2]; trivial))
theorem flowInvC_start {L : Array Bool} {w : World} {a : Act} (h : ∀ i, i < l.length → L.getD i false = false) : FlowInvC l w a ds Ts cb L a w.drew :=
  ⟨ext_drew (ext_refl w), rfl, rfl, fun _ _ => rfl, fun i o ho e => absurd e (by rw [h i (List.getElem?_eq_some_iff.1 ho).1]; decide), fun i hi e => absurd e (by rw [h i hi]; decide), fun i hi e => absurd e (by rw [h i hi]; decide), fun i j hi hj _ e => absurd e (by rw [h i hi]; decide)⟩
/-- **.. stores at its end.** -/
theorem wp_region_flowC_tail {id : Nat} {w : World} {a : Act} (n : Nat) (ds : List Nat) (Ts : List SpecF) (cb : List (Nat × Nat)) (N : Nat) (hm : P.follows .mixedOrders = true) (hl : l.take n ++ l.drop n = l) (hn : (l.take n).length = n)
    (hb0 : backB .any (l.take n) = true) (hs : Region.sinkB .any l.toArray n = true) (hc : Region.chainB .any l.toArray n = true) (ht : 0 < (l.drop n).length)
    (hseq : Region.seqB .any l.toArray (l.drop n).length n (headDone n (l.drop n).length) = true)
    (hsel : Region.noSelect (l.take n).toArray = true) (hQ : ∀ c a d v w, Q (.panic c) (Act.put a d v) w → Q (.panic c) a w)
    (hds : (l.take n).map (·.dst) = ds.map some) (hnd : ds.Nodup) (hN : a.tmps.size = N) (hlt : ds.all (fun d => decide (d < N)) = true) (hb : backOk 0 (l.take n) = true) (hcb : consOk (l.take n) cb = true)
    (hst : FlowAllC P (l.take n) (Exit.then (wpList P l.toArray Q (l.drop n)) Q) w a ds Ts cb 0 (l.take n))
    (hend : ∀ (f : Nat → Value) (W : World), Below w.heap.size w W → (∀ i, i < n → (∀ k, (i, k) ∉ cb) → specF Ts i (f (ds.getD i 0)) W) → (∀ i, i < n → isFr Ts i = true → ∃ B, f (ds.getD i 0) = .pointer (some ⟨B, 0, none⟩) ∧ w.heap.size ≤ B ∧ B < W.heap.size) → (∀ i j, i < n → j < n → i ≠ j → isFr Ts i = true → isFr Ts j = true → f (ds.getD i 0) ≠ f (ds.getD j 0)) → wpList P l.toArray Q (l.drop n) (putV ds f a) W) :
    (Code.region id l.toArray true).wp P Q a w := by
  have hnl : n ≤ l.length := by have h := hn; rw [List.length_take] at h; omega
  refine wp_region_reads_tail n [] n hm hl hn hb0 hs hc ht hseq hsel hQ rfl rfl (by simp) ?_
  refine wpQuiet_nil ?_
  refine flow_goC hds hnd (fun d hd => by have := List.all_eq_true.1 hlt d hd; rw [hN]; simpa using this) hb hcb hst (fun f W hE hT hp hd => ?_) _ _ _ _ (by rw [hn]; simp [setAll]; omega) ?_ (flowInvC_start fun i hi => ?_)
  · rw [hn] at hT hp hd
    exact hend f W (ext_below hE) hT hp hd
  · have := List.count_le_length (a := false) (l := ((setAll (Array.replicate l.length false) []).toList.take (l.take n).length))
    rw [List.length_take (i := (l.take n).length), hn] at this
    rw [hn]
    omega
  · have hi' : i < (Array.replicate l.length false).size := by rw [Array.size_replicate]; rw [hn] at hi; omega
    show (Array.replicate l.length false).getD i false = false
    rw [Array.getD_eq_getD_getElem?, Array.getElem?_eq_getElem hi']
    simp
end
end
end Go.Proofs.Yteofgkdpknaapaa
