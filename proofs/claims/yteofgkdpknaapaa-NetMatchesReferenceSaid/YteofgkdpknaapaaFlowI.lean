/- Regions that draw their order, with rows that are made in them: the rows of two operations lie apart. -/
import Derived.Test.YteofgkdpknaapaaFlow
namespace Go.Proofs.Yteofgkdpknaapaa
open Go.RowKit Go.Sort

/-- The block of a row that is not empty. -/
def blkF : Value → Option Nat
  | .slice (some a) (_ + 1) _ => some a.block
  | _ => none
def FreshI : Bool → Value → World → World → Prop
  | false, _, _, _ => True
  | true, v, W, W' => ∀ B, blkF v = some B → W.heap.size ≤ B ∧ B < W'.heap.size
def FlowStepI (P : Program) (ops : Array Oper) (Q : Exit → Act → World → Prop) (w0 : World) (a0 : Act) (ds : List Nat) (Ts : List SpecF) (i : Nat) (o : Oper) : Prop :=
  ∀ (a : Act) (W : World), Ext w0 W → (∀ t, t ∉ ds → a.eval (.tmp t) = a0.eval (.tmp t)) → (∀ j ∈ needOf o, specF Ts j (a.eval (.tmp (ds.getD j 0))) W) →
    (∀ j ∈ needOf o, ∀ k ∈ needOf o, j ≠ k → isFr Ts j = true → isFr Ts k = true → ∀ B, blkF (a.eval (.tmp (ds.getD j 0))) = some B → blkF (a.eval (.tmp (ds.getD k 0))) ≠ some B) →
    (Region.wanted o (yielded ops a.tmps) = true → Val P Q o a W (fun v W' => Below W.heap.size W W' ∧ (specF Ts i v W' ∧ FreshI (isFr Ts i) v W W'))) ∧ (Region.wanted o (yielded ops a.tmps) = false → (specF Ts i undef W ∧ isFr Ts i = false))
def FlowAllI (P : Program) (ops : Array Oper) (Q : Exit → Act → World → Prop) (w0 : World) (a0 : Act) (ds : List Nat) (Ts : List SpecF) : Nat → List Oper → Prop
  | _, [] => True
  | i, o :: os => FlowStepI P ops Q w0 a0 ds Ts i o ∧ FlowAllI P ops Q w0 a0 ds Ts (i + 1) os
theorem FlowAllI.at_ {P : Program} {ops : Array Oper} {Q : Exit → Act → World → Prop} {w0 : World} {a0 : Act} {ds : List Nat} {Ts : List SpecF} : ∀ {os : List Oper} {k i : Nat} {o : Oper}, FlowAllI P ops Q w0 a0 ds Ts k os → os[i]? = some o → FlowStepI P ops Q w0 a0 ds Ts (k + i) o
  | [], k, i, o, _, h => by simp at h
  | x :: os, k, 0, o, h, e => by simp at e; subst e; exact h.1
  | x :: os, k, i + 1, o, h, e => by
    simp at e
    have := FlowAllI.at_ h.2 e
    rwa [show k + 1 + i = k + (i + 1) by omega] at this
section
variable {P : Program} {Q : Exit → Act → World → Prop} {l : List Oper} {w0 : World} {a0 : Act} {ds : List Nat} {Ts : List SpecF}
theorem all_doneI {L : Array Bool} (hL : l.length ≤ L.size) (hb : backOk 0 l = true) (hr : Region.ready .any l.toArray L = []) : ∀ i, i < l.length → L.getD i false = true := by
  intro i
  induction i using Nat.strongRecOn with
  | _ i ih =>
  intro hi
  cases h : L.getD i false with
  | true => rfl
  | false =>
    have ho := List.getElem?_eq_getElem hi
    have : i ∈ Region.ready .any l.toArray L := mem_ready.2 ⟨by rw [getD_L (by omega) true false]; exact h, _, by rw [List.getElem?_toArray]; exact ho, fun e he hbe => by
      have := backOk_at hb ho e.on (mem_needOf.2 ⟨e, he, hbe, rfl⟩)
      exact ih e.on (by omega) (by omega)⟩
    rw [hr] at this
    cases this
/-- What holds on the way. -/
structure FlowInvI (l : List Oper) (w0 : World) (a0 : Act) (ds : List Nat) (Ts : List SpecF) (L : Array Bool) (a : Act) (W : World) : Prop where
  ext : Ext w0 W
  size : a.tmps.size = a0.tmps.size
  defers : a.defers = a0.defers
  base : ∀ t, t ∉ ds → a.eval (.tmp t) = a0.eval (.tmp t)
  spec : ∀ i, i < l.length → L.getD i false = true → specF Ts i (a.eval (.tmp (ds.getD i 0))) W
  ptr : ∀ i, i < l.length → L.getD i false = true → isFr Ts i = true → ∀ B, blkF (a.eval (.tmp (ds.getD i 0))) = some B → w0.heap.size ≤ B ∧ B < W.heap.size
  apart : ∀ i j, i < l.length → j < l.length → i ≠ j → L.getD i false = true → L.getD j false = true → isFr Ts i = true → isFr Ts j = true → ∀ B, blkF (a.eval (.tmp (ds.getD i 0))) = some B → blkF (a.eval (.tmp (ds.getD j 0))) ≠ some B
theorem flow_goI (hds : l.map (·.dst) = ds.map some) (hnd : ds.Nodup) (hlt : ∀ d ∈ ds, d < a0.tmps.size) (hb : backOk 0 l = true) (hst : FlowAllI P l.toArray Q w0 a0 ds Ts 0 l)
    (hend : ∀ (f : Nat → Value) (W : World), Ext w0 W → (∀ i, i < l.length → specF Ts i (f (ds.getD i 0)) W) → (∀ i, i < l.length → isFr Ts i = true → ∀ B, blkF (f (ds.getD i 0)) = some B → w0.heap.size ≤ B ∧ B < W.heap.size) → (∀ i j, i < l.length → j < l.length → i ≠ j → isFr Ts i = true → isFr Ts j = true → ∀ B, blkF (f (ds.getD i 0)) = some B → blkF (f (ds.getD j 0)) ≠ some B) → Q .normal (putV ds f a0) W) :
    ∀ (fuel : Nat) (L : Array Bool) (a : Act) (W : World), l.length ≤ L.size → (L.toList.take l.length).count false ≤ fuel → FlowInvI l w0 a0 ds Ts L a W → wpAnyH P .any l.toArray Q (Ext w0) fuel L a W := by
  have fin : ∀ (L : Array Bool) (a : Act) (W : World), l.length ≤ L.size → FlowInvI l w0 a0 ds Ts L a W → Region.ready .any l.toArray L = [] → Q .normal a W := fun L a W hL h hr => by
    have hd := all_doneI hL hb hr
    have := hend (fun d => a.eval (.tmp d)) W h.ext (fun i hi => h.spec i hi (hd i hi)) (fun i hi => h.ptr i hi (hd i hi)) (fun i j hi hj hij => h.apart i j hi hj hij (hd i hi) (hd j hj))
    rwa [putV_eq ds a a0 h.size h.defers h.base] at this
  have hlen : ds.length = l.length := by have := congrArg List.length hds; simpa using this.symm
  intro fuel
  induction fuel with
  | zero =>
    intro L a W hL hc hI
    have hr : Region.ready .any l.toArray L = [] := by
      cases hr : Region.ready .any l.toArray L with
      | nil => rfl
      | cons j js =>
        have hj : j ∈ Region.ready .any l.toArray L := by rw [hr]; simp
        obtain ⟨hj1, o, ho, _⟩ := mem_ready.1 hj
        have hjn : j < l.length := by
          rw [List.getElem?_toArray] at ho
          exact (List.getElem?_eq_some_iff.1 ho).1
        have hjl : j < L.size := by omega
        have : false ∈ L.toList.take l.length := by
          have h1 : L[j] = false := by simpa [Array.getD_eq_getD_getElem?, Array.getElem?_eq_getElem hjl] using hj1
          refine List.mem_iff_getElem?.2 ⟨j, ?_⟩
          rw [List.getElem?_take, if_pos hjn, Array.getElem?_toList, Array.getElem?_eq_getElem hjl, h1]
        have := List.count_pos_iff.2 this
        omega
    exact ⟨hr, fin L a W hL hI hr⟩
  | succ fuel ih =>
    intro L a W hL hc hI
    refine ⟨fun hr => fin L a W hL hI hr, fun i hi => ?_⟩
    obtain ⟨hi1, o, ho, hdep⟩ := mem_ready.1 hi
    have ho' : l[i]? = some o := by rw [List.getElem?_toArray] at ho; exact ho
    have hil : i < l.length := (List.getElem?_eq_some_iff.1 ho').1
    have hdst : o.dst = some (ds.getD i 0) := by
      have := congrArg (·[i]?) hds
      simp only [List.getElem?_map, ho', Option.map_some] at this
      rw [List.getElem?_eq_getElem (by rw [hlen]; exact hil)] at this
      simp only [Option.map_some, Option.some.injEq] at this
      rw [this, List.getD_eq_getElem?_getD, List.getElem?_eq_getElem (by rw [hlen]; exact hil)]
      rfl
    have hmem : ∀ j, j < l.length → ds.getD j 0 ∈ ds := fun j hj => by
      rw [List.getD_eq_getElem?_getD, List.getElem?_eq_getElem (by rw [hlen]; exact hj)]
      exact List.getElem_mem _
    have hne : ∀ j, j < l.length → j ≠ i → ds.getD i 0 ≠ ds.getD j 0 := fun j hj hji e => by
      have e1 : ds.getD i 0 = ds[i]'(by rw [hlen]; exact hil) := by rw [List.getD_eq_getElem?_getD, List.getElem?_eq_getElem]; rfl
      have e2 : ds.getD j 0 = ds[j]'(by rw [hlen]; exact hj) := by rw [List.getD_eq_getElem?_getD, List.getElem?_eq_getElem]; rfl
      rw [e1, e2] at e
      exact hji (nodup_inj hnd (by rw [hlen]; exact hj) (by rw [hlen]; exact hil) e.symm)
    have hstep := hst.at_ ho'
    rw [Nat.zero_add] at hstep
    obtain ⟨s1, s2⟩ := hstep a W hI.ext hI.base (fun j hj => by
      obtain ⟨e, he, hbe, rfl⟩ := mem_needOf.1 hj
      have hlt' := backOk_at hb ho' e.on hj
      exact hI.spec e.on (by omega) (hdep e he hbe)) (fun j hj k hk hjk fj fk => by
      obtain ⟨e, he, hbe, rfl⟩ := mem_needOf.1 hj
      obtain ⟨e2, he2, hbe2, rfl⟩ := mem_needOf.1 hk
      have h1 := backOk_at hb ho' e.on hj
      have h2 := backOk_at hb ho' e2.on hk
      exact hI.apart e.on e2.on (by omega) (by omega) hjk (hdep e he hbe) (hdep e2 he2 hbe2) fj fk)
    have next : ∀ (v : Value) (W' : World), Below W.heap.size W W' → specF Ts i v W' → FreshI (isFr Ts i) v W W' → Ext w0 W' ∧ wpAnyH P .any l.toArray Q (Ext w0) fuel (L.setIfInBounds i true) (a.put o.dst v) W' := fun v W' hbW hT hF => by
      have hE' := ext_trans hI.ext (ext_of hbW)
      have other : ∀ j, j < l.length → j ≠ i → Act.eval (a.put o.dst v) (.tmp (ds.getD j 0)) = a.eval (.tmp (ds.getD j 0)) := fun j hj e => by
        rw [hdst]
        unfold Act.eval Act.put
        simp only [Array.getD_eq_getD_getElem?]
        rw [Array.getElem?_setIfInBounds_ne (hne j hj e)]
      have self : Act.eval (a.put o.dst v) (.tmp (ds.getD i 0)) = v := by
        have hd := hlt _ (hmem i hil)
        rw [hdst]
        unfold Act.eval Act.put
        simp only [Array.getD_eq_getD_getElem?, Array.getElem?_setIfInBounds_self]
        rw [if_pos (by rw [hI.size]; exact hd)]; rfl
      have done : ∀ j, j ≠ i → (L.setIfInBounds i true).getD j false = true → L.getD j false = true := fun j e hjd => by
        simp only [Array.getD_eq_getD_getElem?] at hjd ⊢
        rwa [Array.getElem?_setIfInBounds_ne (fun h => e h.symm)] at hjd
      have fresh : isFr Ts i = true → ∀ B, blkF v = some B → W.heap.size ≤ B ∧ B < W'.heap.size := fun h => by
        rw [h] at hF; exact hF
      refine ⟨hE', ih _ _ _ (by simpa using hL) ?_ ⟨hE', by rw [hdst]; simpa [Act.put] using hI.size, by rw [hdst]; simpa [Act.put] using hI.defers, fun t ht => ?_, fun j hj hjd => ?_, fun j hj hjd hfr => ?_, fun j k hj hk hjk hjd hkd hjf hkf => ?_⟩⟩
      · have hLi : (L.toList.take l.length)[i]? = some false := by
          have : L.getD i true = false := hi1
          rw [Array.getD_eq_getD_getElem?, Array.getElem?_eq_getElem (by omega)] at this
          rw [List.getElem?_take, if_pos hil, Array.getElem?_toList, Array.getElem?_eq_getElem (by omega)]
          simpa using this
        have := count_set_L hLi
        rw [Array.toList_setIfInBounds, List.take_set]
        omega
      · rw [hdst, ← hI.base t ht]
        unfold Act.eval Act.put
        simp only [Array.getD_eq_getD_getElem?]
        rw [Array.getElem?_setIfInBounds_ne (fun e => ht (by rw [← e]; exact hmem i hil))]
      · by_cases e : j = i
        · subst e; rw [self]; exact hT
        · rw [other j hj e]
          exact (Ts.getD j (Spec.any, false)).1.st _ _ _ (hI.spec j hj (done j e hjd)) hbW
      · by_cases e : j = i
        · subst e
          rw [self]
          intro B hB
          obtain ⟨h2, h3⟩ := fresh hfr B hB
          exact ⟨by have := (ext_below hI.ext).size; omega, h3⟩
        · rw [other j hj e]
          intro B hB
          obtain ⟨h2, h3⟩ := hI.ptr j hj (done j e hjd) hfr B hB
          exact ⟨h2, Nat.lt_of_lt_of_le h3 hbW.size⟩
      · by_cases e : j = i
        · subst e
          rw [self, other k hk (fun h => hjk h.symm)]
          intro B h1 h1'
          obtain ⟨h2, h3⟩ := fresh hjf B h1
          obtain ⟨h2', h3'⟩ := hI.ptr k hk (done k (fun h => hjk h.symm) hkd) hkf B h1'
          omega
        · by_cases e2 : k = i
          · subst e2
            rw [self, other j hj e]
            intro B h1' h1
            obtain ⟨h2, h3⟩ := fresh hkf B h1
            obtain ⟨h2', h3'⟩ := hI.ptr j hj (done j e hjd) hjf B h1'
            omega
          · rw [other j hj e, other k hk e2]
            exact hI.apart j k hj hk hjk (done j e hjd) (done k e2 hkd) hjf hkf
    refine wpOp_step ho fun K hK => ?_
    split
    · next hw => exact s1 hw K (fun v W' hR => hK _ _ (next v W' hR.1 hR.2.1 hR.2.2))
    · next hw =>
      obtain ⟨t1, t2⟩ := s2 (by simpa using hw)
      exact hK _ _ (next undef W (Below.refl _ _) t1 (by rw [t2]; trivial))
theorem flowInvI_start {L : Array Bool} {w : World} {a : Act} (h : ∀ i, i < l.length → L.getD i false = false) : FlowInvI l w a ds Ts L a w.drew :=
  ⟨ext_drew (ext_refl w), rfl, rfl, fun _ _ => rfl, fun i hi e => absurd e (by rw [h i hi]; decide), fun i hi e => absurd e (by rw [h i hi]; decide), fun i j hi hj _ e => absurd e (by rw [h i hi]; decide)⟩
/-- **A REGION THAT DRAWS ITS ORDER, no stores.** -/
theorem wp_region_flowI {id : Nat} {w : World} {a : Act} (ds : List Nat) (Ts : List SpecF) (N : Nat) (hm : P.follows .mixedOrders = true) (hds : l.map (·.dst) = ds.map some) (hnd : ds.Nodup) (hN : a.tmps.size = N) (hlt : ds.all (fun d => decide (d < N)) = true) (hb : backOk 0 l = true)
    (hst : FlowAllI P l.toArray Q w a ds Ts 0 l)
    (hend : ∀ (f : Nat → Value) (W : World), Below w.heap.size w W → (∀ i, i < l.length → specF Ts i (f (ds.getD i 0)) W) → (∀ i, i < l.length → isFr Ts i = true → ∀ B, blkF (f (ds.getD i 0)) = some B → w.heap.size ≤ B ∧ B < W.heap.size) → (∀ i j, i < l.length → j < l.length → i ≠ j → isFr Ts i = true → isFr Ts j = true → ∀ B, blkF (f (ds.getD i 0)) = some B → blkF (f (ds.getD j 0)) ≠ some B) → Q .normal (putV ds f a) W) :
    (Code.region id l.toArray true).wp P Q a w := by
  refine wp_region_held (S := Ext w) hm ?_
  refine flow_goI hds hnd (fun d hd => by have := List.all_eq_true.1 hlt d hd; rw [hN]; simpa using this) hb hst (fun f W hE hT => hend f W (ext_below hE) hT) _ _ _ _ (by simp) ?_ (flowInvI_start fun i hi => ?_)
  · have := List.count_le_length (a := false) (l := (Array.replicate l.toArray.size false).toList.take l.length)
    simp at this ⊢
  · have hi' : i < (Array.replicate l.toArray.size false).size := by simpa using hi
    rw [Array.getD_eq_getD_getElem?, Array.getElem?_eq_getElem hi']
    simp
/-- **.. stores at its end.** -/
theorem wp_region_flowI_tail {id : Nat} {w : World} {a : Act} (n : Nat) (ds : List Nat) (Ts : List SpecF) (N : Nat) (hm : P.follows .mixedOrders = true) (hl : l.take n ++ l.drop n = l) (hn : (l.take n).length = n)
    (hb0 : backB .any (l.take n) = true) (hs : Region.sinkB .any l.toArray n = true) (hc : Region.chainB .any l.toArray n = true) (ht : 0 < (l.drop n).length)
    (hseq : Region.seqB .any l.toArray (l.drop n).length n (headDone n (l.drop n).length) = true)
    (hsel : Region.noSelect (l.take n).toArray = true) (hQ : ∀ c a d v w, Q (.panic c) (Act.put a d v) w → Q (.panic c) a w)
    (hds : (l.take n).map (·.dst) = ds.map some) (hnd : ds.Nodup) (hN : a.tmps.size = N) (hlt : ds.all (fun d => decide (d < N)) = true) (hb : backOk 0 (l.take n) = true)
    (hst : FlowAllI P (l.take n).toArray (Exit.then (wpList P l.toArray Q (l.drop n)) Q) w a ds Ts 0 (l.take n))
    (hend : ∀ (f : Nat → Value) (W : World), Below w.heap.size w W → (∀ i, i < n → specF Ts i (f (ds.getD i 0)) W) → (∀ i, i < n → isFr Ts i = true → ∀ B, blkF (f (ds.getD i 0)) = some B → w.heap.size ≤ B ∧ B < W.heap.size) → (∀ i j, i < n → j < n → i ≠ j → isFr Ts i = true → isFr Ts j = true → ∀ B, blkF (f (ds.getD i 0)) = some B → blkF (f (ds.getD j 0)) ≠ some B) → wpList P l.toArray Q (l.drop n) (putV ds f a) W) :
    (Code.region id l.toArray true).wp P Q a w := by
  have hnl : n ≤ l.length := by have h := hn; rw [List.length_take] at h; omega
  refine wp_region_reads_tail n [] n hm hl hn hb0 hs hc ht hseq hsel hQ rfl rfl (by simp) ?_
  refine wpQuiet_nil ?_
  refine flow_goI hds hnd (fun d hd => by have := List.all_eq_true.1 hlt d hd; rw [hN]; simpa using this) hb hst (fun f W hE hT hp hd => ?_) _ _ _ _ (by rw [hn]; simp [setAll]; omega) ?_ (flowInvI_start fun i hi => ?_)
  · rw [hn] at hT hp hd
    exact hend f W (ext_below hE) hT hp hd
  · have := List.count_le_length (a := false) (l := ((setAll (Array.replicate l.length false) []).toList.take (l.take n).length))
    rw [List.length_take (i := (l.take n).length), hn] at this
    rw [hn]
    omega
  · have hi' : i < (Array.replicate l.length false).size := by rw [Array.size_replicate]; rw [hn] at hi; omega
    show (Array.replicate l.length false).getD i false = false
    rw [Array.getD_eq_getD_getElem?, Array.getElem?_eq_getElem hi']
    simp
end
end Go.Proofs.Yteofgkdpknaapaa
