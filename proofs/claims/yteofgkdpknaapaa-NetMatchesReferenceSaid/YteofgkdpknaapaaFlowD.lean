/- A region that draws its order, each operation by itself; and how often was drawn does not shrink. -/
import Derived.Test.YteofgkdpknaapaaFlow
namespace Go.Proofs.Yteofgkdpknaapaa
open Go Go.RowKit Go.Sort
section
variable {P : Program} {ops : Array Oper} {md : Region.Mode}
def ExtD (w W : World) : Prop := Ext w W ∧ w.drawn ≤ W.drawn
theorem extD_trans {w w1 w' : World} (h : ExtD w w1) (h' : ExtD w1 w') : ExtD w w' := ⟨ext_trans h.1 h'.1, Nat.le_trans h.2 h'.2⟩
theorem extD_drew (w : World) : ExtD w w.drew := ⟨ext_drew (ext_refl w), Nat.le_succ _⟩
/-- Reads first in the head, under what grows; then what is left of the head; then the tail. -/
theorem wpAny_reads_tailD {Q : Exit → Act → World → Prop} {a : Act} {w w0 : World} {l : List Oper} (n : Nat) (is1 : List Nat) (fuel : Nat) (hl : l.take n ++ l.drop n = l) (hn : (l.take n).length = n)
    (hb : backB md (l.take n) = true) (hs : Region.sinkB md l.toArray n = true) (hc : Region.chainB md l.toArray n = true) (ht : 0 < (l.drop n).length)
    (hseq : Region.seqB md l.toArray (l.drop n).length n (headDone n (l.drop n).length) = true)
    (hsel : Region.noSelect (l.take n).toArray = true) (hQ : ∀ c a d v w, Q (.panic c) (Act.put a d v) w → Q (.panic c) a w)
    (hB1 : orderB md (l.take n).toArray is1 (Array.replicate l.length false) = true) (hp : (pickOps (l.take n) is1).all plainOp = true) (hlen : is1.length + fuel = n) (hw : ExtD w0 w)
    (h : wpQuiet P (l.take n).toArray (ExtD w0) (fun a1 => wpAnyH P md (l.take n).toArray (Exit.then (wpList P l.toArray Q (l.drop n)) Q) (ExtD w0) fuel (setAll (Array.replicate l.length false) is1) a1 w) (pickOps (l.take n) is1) a) :
    wpAny P md l.toArray Q l.toArray.size (Array.replicate l.length false) a w := by
  refine wpAny_head_tail n hl hn hb hs hc ht hseq ?_
  have key := wpAnyH_reads (P := P) (md := md) (S := ExtD w0) (Q := Exit.then (wpList P l.toArray Q (l.drop n)) Q) (fuel := fuel) hsel (fun c a d v w h => hQ c a d v w h) is1 (Array.replicate l.length false) a w hw hB1 hp h
  rw [hlen] at key
  rw [hn]
  exact wpAny_of_held _ _ _ _ key
theorem wp_region_reads_tailD {id : Nat} {Q : Exit → Act → World → Prop} {a : Act} {w : World} {l : List Oper} (n : Nat) (is1 : List Nat) (fuel : Nat) (hm : P.follows .mixedOrders = true) (hl : l.take n ++ l.drop n = l) (hn : (l.take n).length = n)
    (hb : backB .any (l.take n) = true) (hs : Region.sinkB .any l.toArray n = true) (hc : Region.chainB .any l.toArray n = true) (ht : 0 < (l.drop n).length)
    (hseq : Region.seqB .any l.toArray (l.drop n).length n (headDone n (l.drop n).length) = true)
    (hsel : Region.noSelect (l.take n).toArray = true) (hQ : ∀ c a d v w, Q (.panic c) (Act.put a d v) w → Q (.panic c) a w)
    (hB1 : orderB .any (l.take n).toArray is1 (Array.replicate l.length false) = true) (hp : (pickOps (l.take n) is1).all plainOp = true) (hlen : is1.length + fuel = n)
    (h : wpQuiet P (l.take n).toArray (ExtD w) (fun a1 => wpAnyH P .any (l.take n).toArray (Exit.then (wpList P l.toArray Q (l.drop n)) Q) (ExtD w) fuel (setAll (Array.replicate l.length false) is1) a1 w.drew) (pickOps (l.take n) is1) a) :
    (Code.region id l.toArray true).wp P Q a w := by
  refine wp_region_any hm ?_
  have := wpAny_reads_tailD n is1 fuel hl hn hb hs hc ht hseq hsel hQ hB1 hp hlen (extD_drew w) h
  simpa using this
end
def FlowStepD (P : Program) (ops : Array Oper) (Q : Exit → Act → World → Prop) (w0 : World) (a0 : Act) (ds : List Nat) (Ts : List SpecF) (i : Nat) (o : Oper) : Prop :=
  ∀ (a : Act) (W : World), ExtD w0 W → (∀ t, t ∉ ds → a.eval (.tmp t) = a0.eval (.tmp t)) → (∀ j ∈ needOf o, specF Ts j (a.eval (.tmp (ds.getD j 0))) W) →
    (Region.wanted o (yielded ops a.tmps) = true → Val P Q o a W (fun v W' => Below W.heap.size W W' ∧ (W.drawn ≤ W'.drawn ∧ specF Ts i v W' ∧ FreshC (isFr Ts i) v W W'))) ∧ (Region.wanted o (yielded ops a.tmps) = false → (specF Ts i undef W ∧ isFr Ts i = false))
def FlowAllD (P : Program) (ops : Array Oper) (Q : Exit → Act → World → Prop) (w0 : World) (a0 : Act) (ds : List Nat) (Ts : List SpecF) : Nat → List Oper → Prop
  | _, [] => True
  | i, o :: os => FlowStepD P ops Q w0 a0 ds Ts i o ∧ FlowAllD P ops Q w0 a0 ds Ts (i + 1) os
theorem FlowAllD.at_ {P : Program} {ops : Array Oper} {Q : Exit → Act → World → Prop} {w0 : World} {a0 : Act} {ds : List Nat} {Ts : List SpecF} : ∀ {os : List Oper} {k i : Nat} {o : Oper}, FlowAllD P ops Q w0 a0 ds Ts k os → os[i]? = some o → FlowStepD P ops Q w0 a0 ds Ts (k + i) o
  | [], k, i, o, _, h => by simp at h
  | x :: os, k, 0, o, h, e => by simp at e; subst e; exact h.1
  | x :: os, k, i + 1, o, h, e => by
    simp at e
    have := FlowAllD.at_ h.2 e
    rwa [show k + 1 + i = k + (i + 1) by omega] at this
section
variable {P : Program} {Q : Exit → Act → World → Prop} {l : List Oper} {w0 : World} {a0 : Act} {ds : List Nat} {Ts : List SpecF}
/-- What holds on the way. -/
structure FlowInvD (l : List Oper) (w0 : World) (a0 : Act) (ds : List Nat) (Ts : List SpecF) (L : Array Bool) (a : Act) (W : World) : Prop where
  ext : ExtD w0 W
  size : a.tmps.size = a0.tmps.size
  defers : a.defers = a0.defers
  base : ∀ t, t ∉ ds → a.eval (.tmp t) = a0.eval (.tmp t)
  spec : ∀ i, i < l.length → L.getD i false = true → specF Ts i (a.eval (.tmp (ds.getD i 0))) W
  ptr : ∀ i, i < l.length → L.getD i false = true → isFr Ts i = true → ∃ B, a.eval (.tmp (ds.getD i 0)) = .pointer (some ⟨B, 0, none⟩) ∧ w0.heap.size ≤ B ∧ B < W.heap.size
  apart : ∀ i j, i < l.length → j < l.length → i ≠ j → L.getD i false = true → L.getD j false = true → isFr Ts i = true → isFr Ts j = true → a.eval (.tmp (ds.getD i 0)) ≠ a.eval (.tmp (ds.getD j 0))
theorem flow_goD (hds : l.map (·.dst) = ds.map some) (hnd : ds.Nodup) (hlt : ∀ d ∈ ds, d < a0.tmps.size) (hb : backOk 0 l = true) (hst : FlowAllD P l.toArray Q w0 a0 ds Ts 0 l)
    (hend : ∀ (f : Nat → Value) (W : World), ExtD w0 W → (∀ i, i < l.length → specF Ts i (f (ds.getD i 0)) W) → (∀ i, i < l.length → isFr Ts i = true → ∃ B, f (ds.getD i 0) = .pointer (some ⟨B, 0, none⟩) ∧ w0.heap.size ≤ B ∧ B < W.heap.size) → (∀ i j, i < l.length → j < l.length → i ≠ j → isFr Ts i = true → isFr Ts j = true → f (ds.getD i 0) ≠ f (ds.getD j 0)) → Q .normal (putV ds f a0) W) :
    ∀ (fuel : Nat) (L : Array Bool) (a : Act) (W : World), l.length ≤ L.size → (L.toList.take l.length).count false ≤ fuel → FlowInvD l w0 a0 ds Ts L a W → wpAnyH P .any l.toArray Q (ExtD w0) fuel L a W := by
  have fin : ∀ (L : Array Bool) (a : Act) (W : World), l.length ≤ L.size → FlowInvD l w0 a0 ds Ts L a W → Region.ready .any l.toArray L = [] → Q .normal a W := fun L a W hL h hr => by
    have hd := all_doneF hL hb hr
    have := hend (fun d => a.eval (.tmp d)) W h.ext (fun i hi => h.spec i hi (hd i hi)) (fun i hi => h.ptr i hi (hd i hi)) (fun i j hi hj hij => h.apart i j hi hj hij (hd i hi) (hd j hj))
    rwa [putV_eq ds a a0 h.size h.defers h.base] at this
  have hlen : ds.length = l.length := by have := congrArg List.length hds; simpa using this.symm
  intro fuel
  induction fuel with
  | zero =>
    intro L a W hL hc hI
    have hr : Region.ready .any l.toArray L = [] := by
      cases hr : Region.ready .any l.toArray L with
      | nil => rfl
      | cons j js =>
        have hj : j ∈ Region.ready .any l.toArray L := by rw [hr]; simp
        obtain ⟨hj1, o, ho, _⟩ := mem_ready.1 hj
        have hjn : j < l.length := by
          rw [List.getElem?_toArray] at ho
          exact (List.getElem?_eq_some_iff.1 ho).1
        have hjl : j < L.size := by omega
        have : false ∈ L.toList.take l.length := by
          have h1 : L[j] = false := by simpa [Array.getD_eq_getD_getElem?, Array.getElem?_eq_getElem hjl] using hj1
          refine List.mem_iff_getElem?.2 ⟨j, ?_⟩
          rw [List.getElem?_take, if_pos hjn, Array.getElem?_toList, Array.getElem?_eq_getElem hjl, h1]
        have := List.count_pos_iff.2 this
        omega
    exact ⟨hr, fin L a W hL hI hr⟩
  | succ fuel ih =>
    intro L a W hL hc hI
    refine ⟨fun hr => fin L a W hL hI hr, fun i hi => ?_⟩
    obtain ⟨hi1, o, ho, hdep⟩ := mem_ready.1 hi
    have ho' : l[i]? = some o := by rw [List.getElem?_toArray] at ho; exact ho
    have hil : i < l.length := (List.getElem?_eq_some_iff.1 ho').1
    have hdst : o.dst = some (ds.getD i 0) := by
      have := congrArg (·[i]?) hds
      simp only [List.getElem?_map, ho', Option.map_some] at this
      rw [List.getElem?_eq_getElem (by rw [hlen]; exact hil)] at this
      simp only [Option.map_some, Option.some.injEq] at this
      rw [this, List.getD_eq_getElem?_getD, List.getElem?_eq_getElem (by rw [hlen]; exact hil)]
      rfl
    have hmem : ∀ j, j < l.length → ds.getD j 0 ∈ ds := fun j hj => by
      rw [List.getD_eq_getElem?_getD, List.getElem?_eq_getElem (by rw [hlen]; exact hj)]
      exact List.getElem_mem _
    have hne : ∀ j, j < l.length → j ≠ i → ds.getD i 0 ≠ ds.getD j 0 := fun j hj hji e => by
      have e1 : ds.getD i 0 = ds[i]'(by rw [hlen]; exact hil) := by rw [List.getD_eq_getElem?_getD, List.getElem?_eq_getElem]; rfl
      have e2 : ds.getD j 0 = ds[j]'(by rw [hlen]; exact hj) := by rw [List.getD_eq_getElem?_getD, List.getElem?_eq_getElem]; rfl
      rw [e1, e2] at e
      exact hji (nodup_inj hnd (by rw [hlen]; exact hj) (by rw [hlen]; exact hil) e.symm)
    have hstep := hst.at_ ho'
    rw [Nat.zero_add] at hstep
    obtain ⟨s1, s2⟩ := hstep a W hI.ext hI.base (fun j hj => by
      obtain ⟨e, he, hbe, rfl⟩ := mem_needOf.1 hj
      have hlt' := backOk_at hb ho' e.on hj
      exact hI.spec e.on (by omega) (hdep e he hbe))
    have next : ∀ (v : Value) (W' : World), Below W.heap.size W W' → W.drawn ≤ W'.drawn → specF Ts i v W' → FreshC (isFr Ts i) v W W' → ExtD w0 W' ∧ wpAnyH P .any l.toArray Q (ExtD w0) fuel (L.setIfInBounds i true) (a.put o.dst v) W' := fun v W' hbW hdw hT hF => by
      have hE' := extD_trans hI.ext ⟨ext_of hbW, hdw⟩
      have other : ∀ j, j < l.length → j ≠ i → Act.eval (a.put o.dst v) (.tmp (ds.getD j 0)) = a.eval (.tmp (ds.getD j 0)) := fun j hj e => by
        rw [hdst]
        unfold Act.eval Act.put
        simp only [Array.getD_eq_getD_getElem?]
        rw [Array.getElem?_setIfInBounds_ne (hne j hj e)]
      have self : Act.eval (a.put o.dst v) (.tmp (ds.getD i 0)) = v := by
        have hd := hlt _ (hmem i hil)
        rw [hdst]
        unfold Act.eval Act.put
        simp only [Array.getD_eq_getD_getElem?, Array.getElem?_setIfInBounds_self]
        rw [if_pos (by rw [hI.size]; exact hd)]; rfl
      have done : ∀ j, j ≠ i → (L.setIfInBounds i true).getD j false = true → L.getD j false = true := fun j e hjd => by
        simp only [Array.getD_eq_getD_getElem?] at hjd ⊢
        rwa [Array.getElem?_setIfInBounds_ne (fun h => e h.symm)] at hjd
      have fresh : isFr Ts i = true → ∃ B, v = .pointer (some ⟨B, 0, none⟩) ∧ W.heap.size ≤ B ∧ B < W'.heap.size := fun h => by
        rw [h] at hF; exact hF
      refine ⟨hE', ih _ _ _ (by simpa using hL) ?_ ⟨hE', by rw [hdst]; simpa [Act.put] using hI.size, by rw [hdst]; simpa [Act.put] using hI.defers, fun t ht => ?_, fun j hj hjd => ?_, fun j hj hjd hfr => ?_, fun j k hj hk hjk hjd hkd hjf hkf => ?_⟩⟩
      · have hLi : (L.toList.take l.length)[i]? = some false := by
          have : L.getD i true = false := hi1
          rw [Array.getD_eq_getD_getElem?, Array.getElem?_eq_getElem (by omega)] at this
          rw [List.getElem?_take, if_pos hil, Array.getElem?_toList, Array.getElem?_eq_getElem (by omega)]
          simpa using this
        have := count_set_L hLi
        rw [Array.toList_setIfInBounds, List.take_set]
        omega
      · rw [hdst, ← hI.base t ht]
        unfold Act.eval Act.put
        simp only [Array.getD_eq_getD_getElem?]
        rw [Array.getElem?_setIfInBounds_ne (fun e => ht (by rw [← e]; exact hmem i hil))]
      · by_cases e : j = i
        · subst e; rw [self]; exact hT
        · rw [other j hj e]
          exact (Ts.getD j (Spec.any, false)).1.st _ _ _ (hI.spec j hj (done j e hjd)) hbW
      · by_cases e : j = i
        · subst e
          rw [self]
          obtain ⟨B, h1, h2, h3⟩ := fresh hfr
          exact ⟨B, h1, by have := (ext_below hI.ext.1).size; omega, h3⟩
        · rw [other j hj e]
          obtain ⟨B, h1, h2, h3⟩ := hI.ptr j hj (done j e hjd) hfr
          exact ⟨B, h1, h2, Nat.lt_of_lt_of_le h3 hbW.size⟩
      · by_cases e : j = i
        · subst e
          rw [self, other k hk (fun h => hjk h.symm)]
          obtain ⟨B, h1, h2, h3⟩ := fresh hjf
          obtain ⟨B', h1', h2', h3'⟩ := hI.ptr k hk (done k (fun h => hjk h.symm) hkd) hkf
          rw [h1, h1']
          intro h
          injection h with h; injection h with h; injection h with h
          omega
        · by_cases e2 : k = i
          · subst e2
            rw [self, other j hj e]
            obtain ⟨B, h1, h2, h3⟩ := fresh hkf
            obtain ⟨B', h1', h2', h3'⟩ := hI.ptr j hj (done j e hjd) hjf
            rw [h1, h1']
            intro h
            injection h with h; injection h with h; injection h with h
            omega
          · rw [other j hj e, other k hk e2]
            exact hI.apart j k hj hk hjk (done j e hjd) (done k e2 hkd) hjf hkf
    refine wpOp_step ho fun K hK => ?_
    split
    · next hw => exact s1 hw K (fun v W' hR => hK _ _ (next v W' hR.1 hR.2.1 hR.2.2.1 hR.2.2.2))
    · next hw =>
      obtain ⟨t1, t2⟩ := s2 (by simpa using hw)
      exact hK _ _ (next undef W (Below.refl _ _) (Nat.le_refl _) t1 (by rw [t2]; trivial))
theorem flowInv_startD {L : Array Bool} {w : World} {a : Act} (h : ∀ i, i < l.length → L.getD i false = false) : FlowInvD l w a ds Ts L a w.drew :=
  ⟨extD_drew w, rfl, rfl, fun _ _ => rfl, fun i hi e => absurd e (by rw [h i hi]; decide), fun i hi e => absurd e (by rw [h i hi]; decide), fun i j hi hj _ e => absurd e (by rw [h i hi]; decide)⟩
/-- **A REGION THAT DRAWS ITS ORDER, no stores.** -/
theorem wp_region_flowD {id : Nat} {w : World} {a : Act} (ds : List Nat) (Ts : List SpecF) (N : Nat) (hm : P.follows .mixedOrders = true) (hds : l.map (·.dst) = ds.map some) (hnd : ds.Nodup) (hN : a.tmps.size = N) (hlt : ds.all (fun d => decide (d < N)) = true) (hb : backOk 0 l = true)
    (hst : FlowAllD P l.toArray Q w a ds Ts 0 l)
    (hend : ∀ (f : Nat → Value) (W : World), Below w.heap.size w W → w.drawn ≤ W.drawn → (∀ i, i < l.length → specF Ts i (f (ds.getD i 0)) W) → (∀ i, i < l.length → isFr Ts i = true → ∃ B, f (ds.getD i 0) = .pointer (some ⟨B, 0, none⟩) ∧ w.heap.size ≤ B ∧ B < W.heap.size) → (∀ i j, i < l.length → j < l.length → i ≠ j → isFr Ts i = true → isFr Ts j = true → f (ds.getD i 0) ≠ f (ds.getD j 0)) → Q .normal (putV ds f a) W) :
    (Code.region id l.toArray true).wp P Q a w := by
  refine wp_region_held (S := ExtD w) hm ?_
  refine flow_goD hds hnd (fun d hd => by have := List.all_eq_true.1 hlt d hd; rw [hN]; simpa using this) hb hst (fun f W hE hT => hend f W (ext_below hE.1) hE.2 hT) _ _ _ _ (by simp) ?_ (flowInv_startD fun i hi => ?_)
  · have := List.count_le_length (a := false) (l := (Array.replicate l.toArray.size false).toList.take l.length)
    simp at this ⊢
  · have hi' : i < (Array.replicate l.toArray.size false).size := by simpa using hi
    rw [Array.getD_eq_getD_getElem?, Array.getElem?_eq_getElem hi']
    simp
/-- **.. stores at its end.** -/
theorem wp_region_flowD_tail {id : Nat} {w : World} {a : Act} (n : Nat) (ds : List Nat) (Ts : List SpecF) (N : Nat) (hm : P.follows .mixedOrders = true) (hl : l.take n ++ l.drop n = l) (hn : (l.take n).length = n)
    (hb0 : backB .any (l.take n) = true) (hs : Region.sinkB .any l.toArray n = true) (hc : Region.chainB .any l.toArray n = true) (ht : 0 < (l.drop n).length)
    (hseq : Region.seqB .any l.toArray (l.drop n).length n (headDone n (l.drop n).length) = true)
    (hsel : Region.noSelect (l.take n).toArray = true) (hQ : ∀ c a d v w, Q (.panic c) (Act.put a d v) w → Q (.panic c) a w)
    (hds : (l.take n).map (·.dst) = ds.map some) (hnd : ds.Nodup) (hN : a.tmps.size = N) (hlt : ds.all (fun d => decide (d < N)) = true) (hb : backOk 0 (l.take n) = true)
    (hst : FlowAllD P (l.take n).toArray (Exit.then (wpList P l.toArray Q (l.drop n)) Q) w a ds Ts 0 (l.take n))
    (hend : ∀ (f : Nat → Value) (W : World), Below w.heap.size w W → w.drawn ≤ W.drawn → (∀ i, i < n → specF Ts i (f (ds.getD i 0)) W) → (∀ i, i < n → isFr Ts i = true → ∃ B, f (ds.getD i 0) = .pointer (some ⟨B, 0, none⟩) ∧ w.heap.size ≤ B ∧ B < W.heap.size) → (∀ i j, i < n → j < n → i ≠ j → isFr Ts i = true → isFr Ts j = true → f (ds.getD i 0) ≠ f (ds.getD j 0)) → wpList P l.toArray Q (l.drop n) (putV ds f a) W) :
    (Code.region id l.toArray true).wp P Q a w := by
  have hnl : n ≤ l.length := by have h := hn; rw [List.length_take] at h; omega
  refine wp_region_reads_tailD n [] n hm hl hn hb0 hs hc ht hseq hsel hQ rfl rfl (by simp) ?_
  refine wpQuiet_nil ?_
  refine flow_goD hds hnd (fun d hd => by have := List.all_eq_true.1 hlt d hd; rw [hN]; simpa using this) hb hst (fun f W hE hT hp hd => ?_) _ _ _ _ (by rw [hn]; simp [setAll]; omega) ?_ (flowInv_startD fun i hi => ?_)
  · rw [hn] at hT hp hd
    exact hend f W (ext_below hE.1) hE.2 hT hp hd
  · have := List.count_le_length (a := false) (l := ((setAll (Array.replicate l.length false) []).toList.take (l.take n).length))
    rw [List.length_take (i := (l.take n).length), hn] at this
    rw [hn]
    omega
  · have hi' : i < (Array.replicate l.length false).size := by rw [Array.size_replicate]; rw [hn] at hi; omega
    show (Array.replicate l.length false).getD i false = false
    rw [Array.getD_eq_getD_getElem?, Array.getElem?_eq_getElem hi']
    simp
end
/-- Of what was there nothing has turned, and draws have been made: just so. -/
theorem grown_of_below {w W : World} (h : Below w.heap.size w W) (hd : w.drawn ≤ W.drawn) : ∃ q os, W = grow (w.drewN q) os := by
  obtain ⟨⟨d, os⟩, e⟩ := regrown_of_below h
  refine ⟨W.drawn - w.drawn, os, ?_⟩
  rw [e] at hd ⊢
  have hd' : w.drawn ≤ d := hd
  unfold grow redrawn World.drewN
  simp
  omega
end Go.Proofs.Yteofgkdpknaapaa
