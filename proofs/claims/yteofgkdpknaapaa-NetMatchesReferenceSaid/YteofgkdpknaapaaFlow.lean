/- A region that draws its order, in which no operation stores: each operation is shown by itself. -/
import Derived.Test.YteofgkdpknaapaaH1
import Derived.Great.BuildSlice
namespace Go.Proofs.Yteofgkdpknaapaa
open Go Go.RowKit Go.Sort
section
/-- What is known of a value, and stays so while memory grows. -/
structure Spec where
  T : Value → World → Prop
  st : ∀ v W W', T v W → Below W.heap.size W W' → T v W'
def Spec.is (x : Value) : Spec := ⟨fun v _ => v = x, fun _ _ _ h _ => h⟩
def Spec.any : Spec := ⟨fun _ _ => True, fun _ _ _ _ _ => trivial⟩
/-- The operation yields such a value. -/
def Val (P : Program) (Q : Exit → Act → World → Prop) (o : Oper) (a : Act) (W : World) (R : Value → World → Prop) : Prop :=
  ∀ K : Act → World → Prop, (∀ v W', R v W' → K (a.put o.dst v) W') → Oper.wp P o a W K Q
def needOf (o : Oper) : List Nat := (o.after.toList.filter fun e => Region.binds .any e).map (·.on)
def specAt (Ts : List Spec) (i : Nat) : Value → World → Prop := (Ts.getD i Spec.any).T
def FlowStep (P : Program) (ops : Array Oper) (Q : Exit → Act → World → Prop) (w0 : World) (a0 : Act) (ds : List Nat) (Ts : List Spec) (i : Nat) (o : Oper) : Prop :=
  ∀ (a : Act) (W : World), Ext w0 W → (∀ t, t ∉ ds → a.eval (.tmp t) = a0.eval (.tmp t)) → (∀ j ∈ needOf o, specAt Ts j (a.eval (.tmp (ds.getD j 0))) W) →
    (Region.wanted o (yielded ops a.tmps) = true → Val P Q o a W (fun v W' => Below W.heap.size W W' ∧ specAt Ts i v W')) ∧ (Region.wanted o (yielded ops a.tmps) = false → specAt Ts i undef W)
def FlowAll (P : Program) (ops : Array Oper) (Q : Exit → Act → World → Prop) (w0 : World) (a0 : Act) (ds : List Nat) (Ts : List Spec) : Nat → List Oper → Prop
  | _, [] => True
  | i, o :: os => FlowStep P ops Q w0 a0 ds Ts i o ∧ FlowAll P ops Q w0 a0 ds Ts (i + 1) os
theorem FlowAll.at_ {P : Program} {ops : Array Oper} {Q : Exit → Act → World → Prop} {w0 : World} {a0 : Act} {ds : List Nat} {Ts : List Spec} : ∀ {os : List Oper} {k i : Nat} {o : Oper}, FlowAll P ops Q w0 a0 ds Ts k os → os[i]? = some o → FlowStep P ops Q w0 a0 ds Ts (k + i) o
  | [], k, i, o, _, h => by simp at h
  | x :: os, k, 0, o, h, e => by simp at e; subst e; exact h.1
  | x :: os, k, i + 1, o, h, e => by
    simp at e
    have := FlowAll.at_ h.2 e
    rwa [show k + 1 + i = k + (i + 1) by omega] at this
def putV (ds : List Nat) (f : Nat → Value) (a : Act) : Act := ds.foldl (fun a d => a.put (some d) (f d)) a
theorem putV_eq : ∀ (ds : List Nat) (a a0 : Act), a.tmps.size = a0.tmps.size → a.defers = a0.defers → (∀ t, t ∉ ds → a.eval (.tmp t) = a0.eval (.tmp t)) → putV ds (fun d => a.eval (.tmp d)) a0 = a
  | [], a, a0, h1, h2, h3 => by
    obtain ⟨t, d⟩ := a
    obtain ⟨t0, d0⟩ := a0
    simp only at h1 h2
    subst h2
    show Act.mk t0 d = Act.mk t d
    congr 1
    apply Array.ext h1.symm
    intro i hi hj
    have := h3 i (by simp)
    unfold Act.eval at this
    simp only [Array.getD_eq_getD_getElem?, Array.getElem?_eq_getElem hi, Array.getElem?_eq_getElem hj, Option.getD_some] at this
    exact this.symm
  | d :: ds, a, a0, h1, h2, h3 => by
    show putV ds _ (a0.put (some d) (a.eval (.tmp d))) = a
    refine putV_eq ds a _ (by simp [Act.put, h1]) (by simp [Act.put, h2]) fun t ht => ?_
    by_cases e : t = d
    · subst e
      unfold Act.eval Act.put
      simp only [Array.getD_eq_getD_getElem?, Array.getElem?_setIfInBounds_self]
      by_cases hl : t < a0.tmps.size
      · rw [if_pos hl]; rfl
      · rw [if_neg hl, Array.getElem?_eq_none (by omega)]
    · rw [h3 t (by simp [e, ht])]
      unfold Act.eval Act.put
      simp only [Array.getD_eq_getD_getElem?]
      rw [Array.getElem?_setIfInBounds_ne (fun h => e h.symm)]
section
variable {P : Program} {Q : Exit → Act → World → Prop} {l : List Oper} {w0 : World} {a0 : Act} {ds : List Nat} {Ts : List Spec}
def backOk : Nat → List Oper → Bool
  | _, [] => true
  | i, o :: os => (needOf o).all (fun j => decide (j < i)) && backOk (i + 1) os
theorem backOk_at : ∀ {os : List Oper} {k i : Nat} {o : Oper}, backOk k os = true → os[i]? = some o → ∀ j ∈ needOf o, j < k + i
  | [], k, i, o, _, h => by simp at h
  | x :: os, k, 0, o, h, e => by
    simp at e; subst e
    rw [backOk, Bool.and_eq_true, List.all_eq_true] at h
    intro j hj
    simpa using h.1 j hj
  | x :: os, k, i + 1, o, h, e => by
    simp at e
    rw [backOk, Bool.and_eq_true] at h
    intro j hj
    have := backOk_at h.2 e j hj
    omega
theorem mem_needOf {o : Oper} {j : Nat} : j ∈ needOf o ↔ ∃ e ∈ o.after, Region.binds .any e = true ∧ e.on = j := by
  unfold needOf
  simp only [List.mem_map, List.mem_filter, Array.mem_toList_iff]
  constructor
  · rintro ⟨e, ⟨h1, h2⟩, h3⟩; exact ⟨e, h1, h2, h3⟩
  · rintro ⟨e, h1, h2, h3⟩; exact ⟨e, ⟨h1, h2⟩, h3⟩
theorem getD_L {L : Array Bool} {i : Nat} (h : i < L.size) (b c : Bool) : L.getD i b = L.getD i c := by
  simp [Array.getD_eq_getD_getElem?, Array.getElem?_eq_getElem h]
theorem all_done {L : Array Bool} (hL : L.size = l.length) (hb : backOk 0 l = true) (hr : Region.ready .any l.toArray L = []) : ∀ i, i < l.length → L.getD i false = true := by
  intro i
  induction i using Nat.strongRecOn with
  | _ i ih =>
  intro hi
  cases h : L.getD i false with
  | true => rfl
  | false =>
    have ho := List.getElem?_eq_getElem hi
    have : i ∈ Region.ready .any l.toArray L := mem_ready.2 ⟨by rw [getD_L (by omega) true false]; exact h, _, by rw [List.getElem?_toArray]; exact ho, fun e he hbe => by
      have := backOk_at hb ho e.on (mem_needOf.2 ⟨e, he, hbe, rfl⟩)
      exact ih e.on (by omega) (by omega)⟩
    rw [hr] at this
    cases this
theorem nodup_inj : ∀ {ds : List Nat} (_ : ds.Nodup) {i j : Nat} (hi : i < ds.length) (hj : j < ds.length), ds[i] = ds[j] → i = j
  | [], _, i, j, hi, _, _ => absurd hi (by simp)
  | d :: ds, h, 0, 0, _, _, _ => rfl
  | d :: ds, h, 0, j + 1, _, hj, e => absurd (by simp at e; rw [e]; exact List.getElem_mem _) (List.nodup_cons.1 h).1
  | d :: ds, h, i + 1, 0, hi, _, e => absurd (by simp at e; rw [← e]; exact List.getElem_mem _) (List.nodup_cons.1 h).1
  | d :: ds, h, i + 1, j + 1, hi, hj, e => by
    simp at e hi hj
    rw [nodup_inj (List.nodup_cons.1 h).2 hi hj e]
theorem count_set_L : ∀ {L : List Bool} {i : Nat}, L[i]? = some false → (L.set i true).count false + 1 = L.count false
  | [], i, h => by simp at h
  | a :: L, 0, h => by simp at h; subst h; simp
  | a :: L, i + 1, h => by
    simp at h
    have := count_set_L h
    rw [List.set_cons_succ, List.count_cons, List.count_cons]
    omega
theorem flow_go (hds : l.map (·.dst) = ds.map some) (hnd : ds.Nodup) (hlt : ∀ d ∈ ds, d < a0.tmps.size) (hb : backOk 0 l = true) (hst : FlowAll P l.toArray Q w0 a0 ds Ts 0 l)
    (hend : ∀ (f : Nat → Value) (W : World), Ext w0 W → (∀ i, i < l.length → specAt Ts i (f (ds.getD i 0)) W) → Q .normal (putV ds f a0) W) :
    ∀ (fuel : Nat) (L : Array Bool) (a : Act) (W : World), L.size = l.length → L.toList.count false ≤ fuel → Ext w0 W → a.tmps.size = a0.tmps.size → a.defers = a0.defers → (∀ t, t ∉ ds → a.eval (.tmp t) = a0.eval (.tmp t)) →
      (∀ i, i < l.length → L.getD i false = true → specAt Ts i (a.eval (.tmp (ds.getD i 0))) W) → wpAnyH P .any l.toArray Q (Ext w0) fuel L a W := by
  have fin : ∀ (L : Array Bool) (a : Act) (W : World), L.size = l.length → Ext w0 W → a.tmps.size = a0.tmps.size → a.defers = a0.defers → (∀ t, t ∉ ds → a.eval (.tmp t) = a0.eval (.tmp t)) →
      (∀ i, i < l.length → L.getD i false = true → specAt Ts i (a.eval (.tmp (ds.getD i 0))) W) → Region.ready .any l.toArray L = [] → Q .normal a W := fun L a W hL hE h1 h2 h3 h4 hr => by
    have := hend (fun d => a.eval (.tmp d)) W hE (fun i hi => h4 i hi (all_done hL hb hr i hi))
    rwa [putV_eq ds a a0 h1 h2 h3] at this
  have hlen : ds.length = l.length := by have := congrArg List.length hds; simpa using this.symm
  intro fuel
  induction fuel with
  | zero =>
    intro L a W hL hc hE h1 h2 h3 h4
    have hr : Region.ready .any l.toArray L = [] := by
      cases hr : Region.ready .any l.toArray L with
      | nil => rfl
      | cons j js =>
        have hj : j ∈ Region.ready .any l.toArray L := by rw [hr]; simp
        obtain ⟨hj1, o, ho, _⟩ := mem_ready.1 hj
        have hjl : j < L.size := by
          rcases Nat.lt_or_ge j L.size with h | h
          · exact h
          · simp [Array.getD_eq_getD_getElem?, Array.getElem?_eq_none h] at hj1
        have : false ∈ L.toList := by
          have : L[j] = false := by simpa [Array.getD_eq_getD_getElem?, Array.getElem?_eq_getElem hjl] using hj1
          rw [← this, Array.mem_toList_iff]
          exact Array.getElem_mem hjl
        have := List.count_pos_iff.2 this
        omega
    exact ⟨hr, fin L a W hL hE h1 h2 h3 h4 hr⟩
  | succ fuel ih =>
    intro L a W hL hc hE h1 h2 h3 h4
    refine ⟨fun hr => fin L a W hL hE h1 h2 h3 h4 hr, fun i hi => ?_⟩
    obtain ⟨hi1, o, ho, hdep⟩ := mem_ready.1 hi
    have ho' : l[i]? = some o := by simpa using ho
    have hil : i < l.length := (List.getElem?_eq_some_iff.1 ho').1
    have hdst : o.dst = some (ds.getD i 0) := by
      have := congrArg (·[i]?) hds
      simp only [List.getElem?_map, ho', Option.map_some] at this
      rw [List.getElem?_eq_getElem (by rw [hlen]; exact hil)] at this
      simp only [Option.map_some, Option.some.injEq] at this
      rw [this, List.getD_eq_getElem?_getD, List.getElem?_eq_getElem (by rw [hlen]; exact hil)]
      rfl
    have hmem : ∀ j, j < l.length → ds.getD j 0 ∈ ds := fun j hj => by
      rw [List.getD_eq_getElem?_getD, List.getElem?_eq_getElem (by rw [hlen]; exact hj)]
      exact List.getElem_mem _
    have hne : ∀ j, j < l.length → j ≠ i → ds.getD i 0 ≠ ds.getD j 0 := fun j hj hji e => by
      have e1 : ds.getD i 0 = ds[i]'(by rw [hlen]; exact hil) := by rw [List.getD_eq_getElem?_getD, List.getElem?_eq_getElem]; rfl
      have e2 : ds.getD j 0 = ds[j]'(by rw [hlen]; exact hj) := by rw [List.getD_eq_getElem?_getD, List.getElem?_eq_getElem]; rfl
      rw [e1, e2] at e
      exact hji (nodup_inj hnd (by rw [hlen]; exact hj) (by rw [hlen]; exact hil) e.symm)
    have hstep := hst.at_ ho'
    rw [Nat.zero_add] at hstep
    obtain ⟨s1, s2⟩ := hstep a W hE h3 (fun j hj => by
      obtain ⟨e, he, hbe, rfl⟩ := mem_needOf.1 hj
      have hlt' := backOk_at hb ho' e.on hj
      exact h4 e.on (by omega) (hdep e he hbe))
    have next : ∀ (v : Value) (W' : World), Below W.heap.size W W' → specAt Ts i v W' → Ext w0 W' ∧ wpAnyH P .any l.toArray Q (Ext w0) fuel (L.setIfInBounds i true) (a.put o.dst v) W' := fun v W' hbW hT => by
      have hE' := ext_trans hE (ext_of hbW)
      refine ⟨hE', ih _ _ _ (by simpa using hL) ?_ hE' (by rw [hdst]; simpa [Act.put] using h1) (by rw [hdst]; simpa [Act.put] using h2) (fun t ht => ?_) (fun j hj hjd => ?_)⟩
      · have hLi : L.toList[i]? = some false := by
          have : L.getD i true = false := hi1
          rw [Array.getD_eq_getD_getElem?, Array.getElem?_eq_getElem (by omega)] at this
          rw [Array.getElem?_toList, Array.getElem?_eq_getElem (by omega)]
          simpa using this
        have := count_set_L hLi
        rw [Array.toList_setIfInBounds]
        omega
      · rw [hdst, ← h3 t ht]
        unfold Act.eval Act.put
        simp only [Array.getD_eq_getD_getElem?]
        rw [Array.getElem?_setIfInBounds_ne (fun e => ht (by rw [← e]; exact hmem i hil))]
      · rw [hdst]
        by_cases e : j = i
        · subst e
          have hd := hlt _ (hmem j hj)
          have : Act.eval (a.put (some (ds.getD j 0)) v) (.tmp (ds.getD j 0)) = v := by
            unfold Act.eval Act.put
            simp only [Array.getD_eq_getD_getElem?, Array.getElem?_setIfInBounds_self]
            rw [if_pos (by rw [h1]; exact hd)]; rfl
          rw [this]; exact hT
        · have : Act.eval (a.put (some (ds.getD i 0)) v) (.tmp (ds.getD j 0)) = a.eval (.tmp (ds.getD j 0)) := by
            unfold Act.eval Act.put
            simp only [Array.getD_eq_getD_getElem?]
            rw [Array.getElem?_setIfInBounds_ne (hne j hj e)]
          rw [this]
          have hjd' : L.getD j false = true := by
            simp only [Array.getD_eq_getD_getElem?] at hjd ⊢
            rwa [Array.getElem?_setIfInBounds_ne (fun h => e h.symm)] at hjd
          exact (Ts.getD j Spec.any).st _ _ _ (h4 j hj hjd') hbW
    refine wpOp_step ho fun K hK => ?_
    split
    · next hw => exact s1 hw K (fun v W' hR => hK _ _ (next v W' hR.1 hR.2))
    · next hw => exact hK _ _ (next undef W (Below.refl _ _) (s2 (by simpa using hw)))
/-- **A REGION THAT DRAWS ITS ORDER.** -/
theorem wp_region_flow {id : Nat} {w : World} {a : Act} (ds : List Nat) (Ts : List Spec) (N : Nat) (hm : P.follows .mixedOrders = true) (hds : l.map (·.dst) = ds.map some) (hnd : ds.Nodup) (hN : a.tmps.size = N) (hlt : ds.all (fun d => decide (d < N)) = true) (hb : backOk 0 l = true)
    (hst : FlowAll P l.toArray Q w a ds Ts 0 l)
    (hend : ∀ (f : Nat → Value) (W : World), Below w.heap.size w W → (∀ i, i < l.length → specAt Ts i (f (ds.getD i 0)) W) → Q .normal (putV ds f a) W) :
    (Code.region id l.toArray true).wp P Q a w := by
  refine wp_region_held (S := Ext w) hm ?_
  refine flow_go hds hnd (fun d hd => by have := List.all_eq_true.1 hlt d hd; rw [hN]; simpa using this) hb hst (fun f W hE hT => hend f W (ext_below hE) hT) _ _ _ _ (by simp) ?_ (ext_drew (ext_refl w)) rfl rfl (fun _ _ => rfl) (fun i hi h => ?_)
  · have := List.count_le_length (a := false) (l := (Array.replicate l.toArray.size false).toList)
    simp
  · have hi' : i < (Array.replicate l.toArray.size false).size := by simpa using hi
    rw [Array.getD_eq_getD_getElem?, Array.getElem?_eq_getElem hi'] at h
    simp at h
end
/-! ### With variables laid in the region, and stores at its end -/
/-- A specification, and whether the operation lays a variable. -/
abbrev SpecF := Spec × Bool
def specF (Ts : List SpecF) (i : Nat) : Value → World → Prop := (Ts.getD i (Spec.any, false)).1.T
def isFr (Ts : List SpecF) (i : Nat) : Bool := (Ts.getD i (Spec.any, false)).2
def FreshC : Bool → Value → World → World → Prop
  | false, _, _, _ => True
  | true, v, W, W' => ∃ B, v = .pointer (some ⟨B, 0, none⟩) ∧ W.heap.size ≤ B ∧ B < W'.heap.size
def FlowStepF (P : Program) (ops : Array Oper) (Q : Exit → Act → World → Prop) (w0 : World) (a0 : Act) (ds : List Nat) (Ts : List SpecF) (i : Nat) (o : Oper) : Prop :=
  ∀ (a : Act) (W : World), Ext w0 W → (∀ t, t ∉ ds → a.eval (.tmp t) = a0.eval (.tmp t)) → (∀ j ∈ needOf o, specF Ts j (a.eval (.tmp (ds.getD j 0))) W) →
    (Region.wanted o (yielded ops a.tmps) = true → Val P Q o a W (fun v W' => Below W.heap.size W W' ∧ (specF Ts i v W' ∧ FreshC (isFr Ts i) v W W'))) ∧ (Region.wanted o (yielded ops a.tmps) = false → (specF Ts i undef W ∧ isFr Ts i = false))
def FlowAllF (P : Program) (ops : Array Oper) (Q : Exit → Act → World → Prop) (w0 : World) (a0 : Act) (ds : List Nat) (Ts : List SpecF) : Nat → List Oper → Prop
  | _, [] => True
  | i, o :: os => FlowStepF P ops Q w0 a0 ds Ts i o ∧ FlowAllF P ops Q w0 a0 ds Ts (i + 1) os
theorem FlowAllF.at_ {P : Program} {ops : Array Oper} {Q : Exit → Act → World → Prop} {w0 : World} {a0 : Act} {ds : List Nat} {Ts : List SpecF} : ∀ {os : List Oper} {k i : Nat} {o : Oper}, FlowAllF P ops Q w0 a0 ds Ts k os → os[i]? = some o → FlowStepF P ops Q w0 a0 ds Ts (k + i) o
  | [], k, i, o, _, h => by simp at h
  | x :: os, k, 0, o, h, e => by simp at e; subst e; exact h.1
  | x :: os, k, i + 1, o, h, e => by
    simp at e
    have := FlowAllF.at_ h.2 e
    rwa [show k + 1 + i = k + (i + 1) by omega] at this
section
variable {P : Program} {Q : Exit → Act → World → Prop} {l : List Oper} {w0 : World} {a0 : Act} {ds : List Nat} {Ts : List SpecF}
theorem all_doneF {L : Array Bool} (hL : l.length ≤ L.size) (hb : backOk 0 l = true) (hr : Region.ready .any l.toArray L = []) : ∀ i, i < l.length → L.getD i false = true := by
  intro i
  induction i using Nat.strongRecOn with
  | _ i ih =>
  intro hi
  cases h : L.getD i false with
  | true => rfl
  | false =>
    have ho := List.getElem?_eq_getElem hi
    have : i ∈ Region.ready .any l.toArray L := mem_ready.2 ⟨by rw [getD_L (by omega) true false]; exact h, _, by rw [List.getElem?_toArray]; exact ho, fun e he hbe => by
      have := backOk_at hb ho e.on (mem_needOf.2 ⟨e, he, hbe, rfl⟩)
      exact ih e.on (by omega) (by omega)⟩
    rw [hr] at this
    cases this
/-- What holds on the way. -/
structure FlowInv (l : List Oper) (w0 : World) (a0 : Act) (ds : List Nat) (Ts : List SpecF) (L : Array Bool) (a : Act) (W : World) : Prop where
  ext : Ext w0 W
  size : a.tmps.size = a0.tmps.size
  defers : a.defers = a0.defers
  base : ∀ t, t ∉ ds → a.eval (.tmp t) = a0.eval (.tmp t)
  spec : ∀ i, i < l.length → L.getD i false = true → specF Ts i (a.eval (.tmp (ds.getD i 0))) W
  ptr : ∀ i, i < l.length → L.getD i false = true → isFr Ts i = true → ∃ B, a.eval (.tmp (ds.getD i 0)) = .pointer (some ⟨B, 0, none⟩) ∧ w0.heap.size ≤ B ∧ B < W.heap.size
  apart : ∀ i j, i < l.length → j < l.length → i ≠ j → L.getD i false = true → L.getD j false = true → isFr Ts i = true → isFr Ts j = true → a.eval (.tmp (ds.getD i 0)) ≠ a.eval (.tmp (ds.getD j 0))
theorem flow_goF (hds : l.map (·.dst) = ds.map some) (hnd : ds.Nodup) (hlt : ∀ d ∈ ds, d < a0.tmps.size) (hb : backOk 0 l = true) (hst : FlowAllF P l.toArray Q w0 a0 ds Ts 0 l)
    (hend : ∀ (f : Nat → Value) (W : World), Ext w0 W → (∀ i, i < l.length → specF Ts i (f (ds.getD i 0)) W) → (∀ i, i < l.length → isFr Ts i = true → ∃ B, f (ds.getD i 0) = .pointer (some ⟨B, 0, none⟩) ∧ w0.heap.size ≤ B ∧ B < W.heap.size) → (∀ i j, i < l.length → j < l.length → i ≠ j → isFr Ts i = true → isFr Ts j = true → f (ds.getD i 0) ≠ f (ds.getD j 0)) → Q .normal (putV ds f a0) W) :
    ∀ (fuel : Nat) (L : Array Bool) (a : Act) (W : World), l.length ≤ L.size → (L.toList.take l.length).count false ≤ fuel → FlowInv l w0 a0 ds Ts L a W → wpAnyH P .any l.toArray Q (Ext w0) fuel L a W := by
  have fin : ∀ (L : Array Bool) (a : Act) (W : World), l.length ≤ L.size → FlowInv l w0 a0 ds Ts L a W → Region.ready .any l.toArray L = [] → Q .normal a W := fun L a W hL h hr => by
    have hd := all_doneF hL hb hr
    have := hend (fun d => a.eval (.tmp d)) W h.ext (fun i hi => h.spec i hi (hd i hi)) (fun i hi => h.ptr i hi (hd i hi)) (fun i j hi hj hij => h.apart i j hi hj hij (hd i hi) (hd j hj))
    rwa [putV_eq ds a a0 h.size h.defers h.base] at this
  have hlen : ds.length = l.length := by have := congrArg List.length hds; simpa using this.symm
  intro fuel
  induction fuel with
  | zero =>
    intro L a W hL hc hI
    have hr : Region.ready .any l.toArray L = [] := by
      cases hr : Region.ready .any l.toArray L with
      | nil => rfl
      | cons j js =>
        have hj : j ∈ Region.ready .any l.toArray L := by rw [hr]; simp
        obtain ⟨hj1, o, ho, _⟩ := mem_ready.1 hj
        have hjn : j < l.length := by
          rw [List.getElem?_toArray] at ho
          exact (List.getElem?_eq_some_iff.1 ho).1
        have hjl : j < L.size := by omega
        have : false ∈ L.toList.take l.length := by
          have h1 : L[j] = false := by simpa [Array.getD_eq_getD_getElem?, Array.getElem?_eq_getElem hjl] using hj1
          refine List.mem_iff_getElem?.2 ⟨j, ?_⟩
          rw [List.getElem?_take, if_pos hjn, Array.getElem?_toList, Array.getElem?_eq_getElem hjl, h1]
        have := List.count_pos_iff.2 this
        omega
    exact ⟨hr, fin L a W hL hI hr⟩
  | succ fuel ih =>
    intro L a W hL hc hI
    refine ⟨fun hr => fin L a W hL hI hr, fun i hi => ?_⟩
    obtain ⟨hi1, o, ho, hdep⟩ := mem_ready.1 hi
    have ho' : l[i]? = some o := by rw [List.getElem?_toArray] at ho; exact ho
    have hil : i < l.length := (List.getElem?_eq_some_iff.1 ho').1
    have hdst : o.dst = some (ds.getD i 0) := by
      have := congrArg (·[i]?) hds
      simp only [List.getElem?_map, ho', Option.map_some] at this
      rw [List.getElem?_eq_getElem (by rw [hlen]; exact hil)] at this
      simp only [Option.map_some, Option.some.injEq] at this
      rw [this, List.getD_eq_getElem?_getD, List.getElem?_eq_getElem (by rw [hlen]; exact hil)]
      rfl
    have hmem : ∀ j, j < l.length → ds.getD j 0 ∈ ds := fun j hj => by
      rw [List.getD_eq_getElem?_getD, List.getElem?_eq_getElem (by rw [hlen]; exact hj)]
      exact List.getElem_mem _
    have hne : ∀ j, j < l.length → j ≠ i → ds.getD i 0 ≠ ds.getD j 0 := fun j hj hji e => by
      have e1 : ds.getD i 0 = ds[i]'(by rw [hlen]; exact hil) := by rw [List.getD_eq_getElem?_getD, List.getElem?_eq_getElem]; rfl
      have e2 : ds.getD j 0 = ds[j]'(by rw [hlen]; exact hj) := by rw [List.getD_eq_getElem?_getD, List.getElem?_eq_getElem]; rfl
      rw [e1, e2] at e
      exact hji (nodup_inj hnd (by rw [hlen]; exact hj) (by rw [hlen]; exact hil) e.symm)
    have hstep := hst.at_ ho'
    rw [Nat.zero_add] at hstep
    obtain ⟨s1, s2⟩ := hstep a W hI.ext hI.base (fun j hj => by
      obtain ⟨e, he, hbe, rfl⟩ := mem_needOf.1 hj
      have hlt' := backOk_at hb ho' e.on hj
      exact hI.spec e.on (by omega) (hdep e he hbe))
    have next : ∀ (v : Value) (W' : World), Below W.heap.size W W' → specF Ts i v W' → FreshC (isFr Ts i) v W W' → Ext w0 W' ∧ wpAnyH P .any l.toArray Q (Ext w0) fuel (L.setIfInBounds i true) (a.put o.dst v) W' := fun v W' hbW hT hF => by
      have hE' := ext_trans hI.ext (ext_of hbW)
      have other : ∀ j, j < l.length → j ≠ i → Act.eval (a.put o.dst v) (.tmp (ds.getD j 0)) = a.eval (.tmp (ds.getD j 0)) := fun j hj e => by
        rw [hdst]
        unfold Act.eval Act.put
        simp only [Array.getD_eq_getD_getElem?]
        rw [Array.getElem?_setIfInBounds_ne (hne j hj e)]
      have self : Act.eval (a.put o.dst v) (.tmp (ds.getD i 0)) = v := by
        have hd := hlt _ (hmem i hil)
        rw [hdst]
        unfold Act.eval Act.put
        simp only [Array.getD_eq_getD_getElem?, Array.getElem?_setIfInBounds_self]
        rw [if_pos (by rw [hI.size]; exact hd)]; rfl
      have done : ∀ j, j ≠ i → (L.setIfInBounds i true).getD j false = true → L.getD j false = true := fun j e hjd => by
        simp only [Array.getD_eq_getD_getElem?] at hjd ⊢
        rwa [Array.getElem?_setIfInBounds_ne (fun h => e h.symm)] at hjd
      have fresh : isFr Ts i = true → ∃ B, v = .pointer (some ⟨B, 0, none⟩) ∧ W.heap.size ≤ B ∧ B < W'.heap.size := fun h => by
        rw [h] at hF; exact hF
      refine ⟨hE', ih _ _ _ (by simpa using hL) ?_ ⟨hE', by rw [hdst]; simpa [Act.put] using hI.size, by rw [hdst]; simpa [Act.put] using hI.defers, fun t ht => ?_, fun j hj hjd => ?_, fun j hj hjd hfr => ?_, fun j k hj hk hjk hjd hkd hjf hkf => ?_⟩⟩
      · have hLi : (L.toList.take l.length)[i]? = some false := by
          have : L.getD i true = false := hi1
          rw [Array.getD_eq_getD_getElem?, Array.getElem?_eq_getElem (by omega)] at this
          rw [List.getElem?_take, if_pos hil, Array.getElem?_toList, Array.getElem?_eq_getElem (by omega)]
          simpa using this
        have := count_set_L hLi
        rw [Array.toList_setIfInBounds, List.take_set]
        omega
      · rw [hdst, ← hI.base t ht]
        unfold Act.eval Act.put
        simp only [Array.getD_eq_getD_getElem?]
        rw [Array.getElem?_setIfInBounds_ne (fun e => ht (by rw [← e]; exact hmem i hil))]
      · by_cases e : j = i
        · subst e; rw [self]; exact hT
        · rw [other j hj e]
          exact (Ts.getD j (Spec.any, false)).1.st _ _ _ (hI.spec j hj (done j e hjd)) hbW
      · by_cases e : j = i
        · subst e
          rw [self]
          obtain ⟨B, h1, h2, h3⟩ := fresh hfr
          exact ⟨B, h1, by have := (ext_below hI.ext).size; omega, h3⟩
        · rw [other j hj e]
          obtain ⟨B, h1, h2, h3⟩ := hI.ptr j hj (done j e hjd) hfr
          exact ⟨B, h1, h2, Nat.lt_of_lt_of_le h3 hbW.size⟩
      · by_cases e : j = i
        · subst e
          rw [self, other k hk (fun h => hjk h.symm)]
          obtain ⟨B, h1, h2, h3⟩ := fresh hjf
          obtain ⟨B', h1', h2', h3'⟩ := hI.ptr k hk (done k (fun h => hjk h.symm) hkd) hkf
          rw [h1, h1']
          intro h
          injection h with h; injection h with h; injection h with h
          omega
        · by_cases e2 : k = i
          · subst e2
            rw [self, other j hj e]
            obtain ⟨B, h1, h2, h3⟩ := fresh hkf
            obtain ⟨B', h1', h2', h3'⟩ := hI.ptr j hj (done j e hjd) hjf
            rw [h1, h1']
            intro h
            injection h with h; injection h with h; injection h with h
            omega
          · rw [other j hj e, other k hk e2]
            exact hI.apart j k hj hk hjk (done j e hjd) (done k e2 hkd) hjf hkf
    refine wpOp_step ho fun K hK => ?_
    split
    · next hw => exact s1 hw K (fun v W' hR => hK _ _ (next v W' hR.1 hR.2.1 hR.2.2))
    · next hw =>
      obtain ⟨t1, t2⟩ := s2 (by simpa using hw)
      exact hK _ _ (next undef W (Below.refl _ _) t1 (by rw [t2]; trivial))
theorem flowInv_start {L : Array Bool} {w : World} {a : Act} (h : ∀ i, i < l.length → L.getD i false = false) : FlowInv l w a ds Ts L a w.drew :=
  ⟨ext_drew (ext_refl w), rfl, rfl, fun _ _ => rfl, fun i hi e => absurd e (by rw [h i hi]; decide), fun i hi e => absurd e (by rw [h i hi]; decide), fun i j hi hj _ e => absurd e (by rw [h i hi]; decide)⟩
/-- **A REGION THAT DRAWS ITS ORDER, no stores.** -/
theorem wp_region_flowF {id : Nat} {w : World} {a : Act} (ds : List Nat) (Ts : List SpecF) (N : Nat) (hm : P.follows .mixedOrders = true) (hds : l.map (·.dst) = ds.map some) (hnd : ds.Nodup) (hN : a.tmps.size = N) (hlt : ds.all (fun d => decide (d < N)) = true) (hb : backOk 0 l = true)
    (hst : FlowAllF P l.toArray Q w a ds Ts 0 l)
    (hend : ∀ (f : Nat → Value) (W : World), Below w.heap.size w W → (∀ i, i < l.length → specF Ts i (f (ds.getD i 0)) W) → (∀ i, i < l.length → isFr Ts i = true → ∃ B, f (ds.getD i 0) = .pointer (some ⟨B, 0, none⟩) ∧ w.heap.size ≤ B ∧ B < W.heap.size) → (∀ i j, i < l.length → j < l.length → i ≠ j → isFr Ts i = true → isFr Ts j = true → f (ds.getD i 0) ≠ f (ds.getD j 0)) → Q .normal (putV ds f a) W) :
    (Code.region id l.toArray true).wp P Q a w := by
  refine wp_region_held (S := Ext w) hm ?_
  refine flow_goF hds hnd (fun d hd => by have := List.all_eq_true.1 hlt d hd; rw [hN]; simpa using this) hb hst (fun f W hE hT => hend f W (ext_below hE) hT) _ _ _ _ (by simp) ?_ (flowInv_start fun i hi => ?_)
  · have := List.count_le_length (a := false) (l := (Array.replicate l.toArray.size false).toList.take l.length)
    simp at this ⊢
  · have hi' : i < (Array.replicate l.toArray.size false).size := by simpa using hi
    rw [Array.getD_eq_getD_getElem?, Array.getElem?_eq_getElem hi']
    simp
/-- **.. stores at its end.** -/
theorem wp_region_flow_tail {id : Nat} {w : World} {a : Act} (n : Nat) (ds : List Nat) (Ts : List SpecF) (N : Nat) (hm : P.follows .mixedOrders = true) (hl : l.take n ++ l.drop n = l) (hn : (l.take n).length = n)
    (hb0 : backB .any (l.take n) = true) (hs : Region.sinkB .any l.toArray n = true) (hc : Region.chainB .any l.toArray n = true) (ht : 0 < (l.drop n).length)
    (hseq : Region.seqB .any l.toArray (l.drop n).length n (headDone n (l.drop n).length) = true)
    (hsel : Region.noSelect (l.take n).toArray = true) (hQ : ∀ c a d v w, Q (.panic c) (Act.put a d v) w → Q (.panic c) a w)
    (hds : (l.take n).map (·.dst) = ds.map some) (hnd : ds.Nodup) (hN : a.tmps.size = N) (hlt : ds.all (fun d => decide (d < N)) = true) (hb : backOk 0 (l.take n) = true)
    (hst : FlowAllF P (l.take n).toArray (Exit.then (wpList P l.toArray Q (l.drop n)) Q) w a ds Ts 0 (l.take n))
    (hend : ∀ (f : Nat → Value) (W : World), Below w.heap.size w W → (∀ i, i < n → specF Ts i (f (ds.getD i 0)) W) → (∀ i, i < n → isFr Ts i = true → ∃ B, f (ds.getD i 0) = .pointer (some ⟨B, 0, none⟩) ∧ w.heap.size ≤ B ∧ B < W.heap.size) → (∀ i j, i < n → j < n → i ≠ j → isFr Ts i = true → isFr Ts j = true → f (ds.getD i 0) ≠ f (ds.getD j 0)) → wpList P l.toArray Q (l.drop n) (putV ds f a) W) :
    (Code.region id l.toArray true).wp P Q a w := by
  have hnl : n ≤ l.length := by have h := hn; rw [List.length_take] at h; omega
  refine wp_region_reads_tail n [] n hm hl hn hb0 hs hc ht hseq hsel hQ rfl rfl (by simp) ?_
  refine wpQuiet_nil ?_
  refine flow_goF hds hnd (fun d hd => by have := List.all_eq_true.1 hlt d hd; rw [hN]; simpa using this) hb hst (fun f W hE hT hp hd => ?_) _ _ _ _ (by rw [hn]; simp [setAll]; omega) ?_ (flowInv_start fun i hi => ?_)
  · rw [hn] at hT hp hd
    exact hend f W (ext_below hE) hT hp hd
  · have := List.count_le_length (a := false) (l := ((setAll (Array.replicate l.length false) []).toList.take (l.take n).length))
    rw [List.length_take (i := (l.take n).length), hn] at this
    rw [hn]
    omega
  · have hi' : i < (Array.replicate l.length false).size := by rw [Array.size_replicate]; rw [hn] at hi; omega
    show (Array.replicate l.length false).getD i false = false
    rw [Array.getD_eq_getD_getElem?, Array.getElem?_eq_getElem hi']
    simp
end
section
variable {P : Program} {Q : Exit → Act → World → Prop} {o : Oper} {a : Act} {W : World} {ops : Array Oper} {i : Nat} {Ts : List Spec}
theorem yielded_of {g d : Nat} {b : Bool} (hg : (ops[g]?).bind (·.dst) = some d) (h : a.eval (.tmp d) = .bool b) : yielded ops a.tmps g = some b := by
  unfold yielded
  rw [hg]
  unfold Act.eval at h
  simp only [Array.getD_eq_getD_getElem?] at h
  simp only [Option.bind_some]
  cases e : a.tmps[d]? with
  | none => rw [e] at h; exact absurd h (by simp [undef])
  | some v => rw [e] at h; simp only [Option.getD_some] at h; rw [h]
/-- Without a guard. -/
theorem flow0 {R : Value → World → Prop} {U : Prop} (hg : o.guard = none) (h : Val P Q o a W R) : (Region.wanted o (yielded ops a.tmps) = true → Val P Q o a W R) ∧ (Region.wanted o (yielded ops a.tmps) = false → U) :=
  ⟨fun _ => h, fun e => by simp [Region.wanted, hg] at e⟩
/-- Under a guard that holds. -/
theorem flowY {R : Value → World → Prop} {U : Prop} {g d : Nat} {b : Bool} (hg : o.guard = some (g, b)) (hd : (ops[g]?).bind (·.dst) = some d) (hv : a.eval (.tmp d) = .bool b) (h : Val P Q o a W R) : (Region.wanted o (yielded ops a.tmps) = true → Val P Q o a W R) ∧ (Region.wanted o (yielded ops a.tmps) = false → U) :=
  ⟨fun _ => h, fun e => by simp [Region.wanted, hg, yielded_of hd hv] at e⟩
/-- Under a guard that does not hold. -/
theorem flowN {R : Value → World → Prop} {U : Prop} {g d : Nat} {b b' : Bool} (hg : o.guard = some (g, b)) (hd : (ops[g]?).bind (·.dst) = some d) (hv : a.eval (.tmp d) = .bool b') (hne : b' ≠ b) (h : U) : (Region.wanted o (yielded ops a.tmps) = true → Val P Q o a W R) ∧ (Region.wanted o (yielded ops a.tmps) = false → U) :=
  ⟨fun e => by simp [Region.wanted, hg, yielded_of hd hv, hne] at e, fun _ => h⟩
theorem val_move {R : Value → World → Prop} (x : Operand) (ho : o.op = .move x) (v : Value) (hx : a.eval x = v) (h : R v W) : Val P Q o a W (fun v W' => Below W.heap.size W W' ∧ R v W') := fun K hK => by
  unfold Oper.wp execOp
  simp only [ho, Sem.run_pure, hx]
  exact hK _ _ ⟨Below.refl _ _, h⟩
theorem val_assign {R : Value → World → Prop} (x : Operand) (ho : o.op = .assign x) (v : Value) (hx : a.eval x = v) (h : R v W) : Val P Q o a W (fun v W' => Below W.heap.size W W' ∧ R v W') := fun K hK => by
  unfold Oper.wp execOp
  simp only [ho, Sem.run_pure, hx]
  exact hK _ _ ⟨Below.refl _ _, h⟩
theorem val_pick {R : Value → World → Prop} (c x y : Operand) (ho : o.op = .pick c x y) (b : Bool) (hc : a.eval c = .bool b) (v : Value) (hv : (if b = true then a.eval x else a.eval y) = v) (h : R v W) : Val P Q o a W (fun v W' => Below W.heap.size W W' ∧ R v W') := fun K hK => by
  unfold Oper.wp execOp
  simp only [ho, hc, Sem.run_bind, asBool, Sem.run_pure, Result.andThen_ok, hv]
  exact hK _ _ ⟨Below.refl _ _, h⟩
theorem val_load_row {R : Value → World → Prop} (ty : TypeId) (x : Operand) (ho : o.op = .load ty x) (b off : Nat) (hx : a.eval x = .pointer (some ⟨b, off, none⟩)) (cs : List Value) (d : TypeDesc) (hc : W.rangeAt b off cs)
    (hu : P.underlying ty = some d) (hd : d.isRow = true) (hi : (P.info? ty).map (·.size) = some cs.length) (h : R (.agg cs.toArray) W) : Val P Q o a W (fun v W' => Below W.heap.size W W' ∧ R v W') := fun _ hK =>
  wp_load_mid ty x ho b off hx cs d hc hu hd hi (hK _ _ ⟨Below.refl _ _, h⟩)
theorem val_build {R : Value → World → Prop} (t : TypeId) (parts : Array (Nat × Operand)) (ho : o.op = .build t parts) (vals : List (Nat × Value)) (hv : parts.toList.map (fun (x : Nat × Operand) => (x.fst, a.eval x.snd)) = vals) (Z : Array Value) (hZ : P.built t vals = some Z) (h : R (.agg Z) W) : Val P Q o a W (fun v W' => Below W.heap.size W W' ∧ R v W') := fun K hK => by
  unfold Oper.wp execOp
  simp only [ho, Sem.run_bind]
  rw [show parts.map (fun (x : Nat × Operand) => (x.fst, a.eval x.snd)) = vals.toArray from by subst hv; obtain ⟨l⟩ := parts; simp only [List.map_toArray], run_build W t _ Z hZ]
  exact hK _ _ ⟨Below.refl _ _, h⟩
theorem run_callFunc {f : FuncId} (hf : (P.funcs[f]?).map (fun fn => (fn.name == "runtime.NumGoroutine", fn.body.isNone)) = some (false, false)) (args : Array Value) (w : World) : (callFunc f args).run P w = .ok (.enter f args) w := by
  obtain ⟨fn, h1, h2⟩ := Option.map_eq_some_iff.1 hf
  simp only [Prod.mk.injEq, beq_eq_false_iff_ne] at h2
  have h3 : fn.body ≠ none := fun e => by rw [e] at h2; exact absurd h2.2 (by simp)
  simp [callFunc, go_sem, h1, h2.1, h3]
theorem val_call {R : Value → World → Prop} (f : FuncId) (args : Array Operand) (ts : Array TypeId) (ho : o.op = .call { callee := .value (.func f), args := args, argTypes := ts }) (hf : (P.funcs[f]?).map (fun fn => (fn.name == "runtime.NumGoroutine", fn.body.isNone)) = some (false, false)) (vs : List Value) (hvs : args.toList.map a.eval = vs) (h : Calls P f vs.toArray W (fun e W' => ∃ v, e = .returned v ∧ Below W.heap.size W W' ∧ R v W')) : Val P Q o a W (fun v W' => Below W.heap.size W W' ∧ R v W') := fun K hK => by
  have hvs' : args.map a.eval = vs.toArray := by subst hvs; obtain ⟨l⟩ := args; simp only [List.map_toArray]
  unfold Oper.wp execOp
  simp only [ho]
  have e1 : a.eval (.func f) = .func (.func f) #[] #[] := rfl
  simp only [resolve, e1, hvs', Deferred.ofValue, Sem.run_bind, Sem.run_pure, Result.andThen_ok, invoke, Array.append_empty, Array.empty_append, run_callFunc hf, Oper.upon]
  refine h.mono ?_
  rintro e W' ⟨v, rfl, hb, hR⟩
  exact hK _ _ ⟨hb, hR⟩
theorem val_alloc {R : Value → World → Prop} (t : TypeId) (ho : o.op = .alloc t) (Z : Array Value) (z : Value) (ti : TypeInfo) (hi : P.info? t = some ti) (hz : ti.zero = some z) (hc : z.cells = Z) (h : R (.pointer (some ⟨W.heap.size, 0, none⟩)) (W.alloc (.cells Z t))) : Val P Q o a W (fun v W' => Below W.heap.size W W' ∧ R v W') := fun K hK => by
  subst hc
  unfold Oper.wp execOp
  simp only [ho, Sem.run_bind, Instr.alloc, zeroValue, typeInfo, newVar, newRow, run_newObj_alloc, Sem.run_pure, Result.andThen_ok]
  simp [hi, hz]
  exact hK _ _ ⟨(Below.refl _ _).alloc (Nat.le_refl _) _, h⟩
theorem val_len {R : Value → World → Prop} (x : Operand) (t e : TypeId) (ho : o.op = .call { callee := .builtin .len, args := #[x], argTypes := #[t] }) (hu : P.underlying t = some (.slice e)) (A : Option Addr) (n c : Nat) (hx : a.eval x = .slice A n c) (h : R (.int .i64 (n : Int)) W) : Val P Q o a W (fun v W' => Below W.heap.size W W' ∧ R v W') := fun K hK => by
  unfold Oper.wp execOp
  simp only [ho, resolve, invoke, builtin, List.map_toArray, List.map_cons, List.map_nil, hx]
  simp [go_sem, Builtin.len_, underlying, hu]
  exact hK _ _ ⟨Below.refl _ _, h⟩
theorem val_not {R : Value → World → Prop} (t : TypeId) (x : Operand) (ho : o.op = .unOp .not t x) (b : Bool) (hx : a.eval x = .bool b) (h : R (.bool (!b)) W) : Val P Q o a W (fun v W' => Below W.heap.size W W' ∧ R v W') := fun K hK => by
  unfold Oper.wp execOp
  simp only [ho, hx]
  simp [go_sem]
  exact hK _ _ ⟨Below.refl _ _, h⟩
theorem val_eqI {R : Value → World → Prop} (t t' : TypeId) (x y : Operand) (ho : o.op = .binOp .eql t x y t') (m n : Int) (hx : a.eval x = .int .i64 m) (hy : a.eval y = .int .i64 n) (h : R (.bool (m == n)) W) : Val P Q o a W (fun v W' => Below W.heap.size W W' ∧ R v W') := fun K hK => by
  unfold Oper.wp execOp
  simp only [ho, hx, hy]
  simp [go_sem]
  exact hK _ _ ⟨Below.refl _ _, h⟩
theorem val_buildSlice {R : Value → World → Prop} (t e : TypeId) (len : Nat) (parts : Array (Nat × Operand)) (ho : o.op = .buildSlice t len parts) (vals : List (Nat × Value)) (hv : parts.toList.map (fun (x : Nat × Operand) => (x.fst, a.eval x.snd)) = vals) (cells : Array Value) (ie : TypeInfo) (z : Value) (s : Nat)
    (hu : P.underlying t = some (.slice e)) (hie : P.info? e = some ie) (hz : ie.zero = some z) (hs : ie.size = s) (hsmall : len * s ≤ 2 ^ 24) (hpos : 0 < len * s)
    (hf : Instr.fill (fun i => some (i * s, s)) ((Array.range (len * s)).map (z.cells[· % z.cells.size]!)) vals = some cells)
    (h : R (.slice (some ⟨W.heap.size, 0, none⟩) len len) (W.alloc (.cells cells e))) : Val P Q o a W (fun v W' => Below W.heap.size W W' ∧ R v W') := fun K hK => by
  subst hs
  refine wp_buildSlice t e len parts ho cells ie z hu hie hz (by omega) (by omega) ?_ (hK _ _ ⟨(Below.refl _ _).alloc (Nat.le_refl _) _, h⟩)
  rw [show (parts.map fun (x : Nat × Operand) => (x.fst, a.eval x.snd)).toList = vals from by subst hv; obtain ⟨l⟩ := parts; simp]
  exact hf
theorem wp_fieldV {K : Act → World → Prop} (t : TypeId) (x : Operand) (f : Nat) (ho : o.op = .field t x f) (v u : Value) (hx : a.eval x = v) (hr : (Instr.field t v f).run P W = .ok u W) (h : K (a.put o.dst u) W) : Oper.wp P o a W K Q := by
  unfold Oper.wp execOp
  simp only [ho, Sem.run_bind, hx, hr, Result.andThen_ok]
  exact h
theorem val_field {R : Value → World → Prop} (t : TypeId) (x : Operand) (f : Nat) (ho : o.op = .field t x f) (v u : Value) (hx : a.eval x = v) (hr : (Instr.field t v f).run P W = .ok u W) (h : R u W) : Val P Q o a W (fun v W' => Below W.heap.size W W' ∧ R v W') := fun _ hK => wp_fieldV t x f ho v u hx hr (hK _ _ ⟨Below.refl _ _, h⟩)
theorem wpList_field {rest : List Oper} (hw : Region.wanted o (yielded ops a.tmps) = true) (t : TypeId) (x : Operand) (f : Nat) (ho : o.op = .field t x f) (v u : Value) (hx : a.eval x = v) (hr : (Instr.field t v f).run P W = .ok u W)
    (h : wpList P ops Q rest (a.put o.dst u) W) : wpList P ops Q (o :: rest) a W := by
  rw [wpList, if_pos hw]
  exact .inl (wp_fieldV t x f ho v u hx hr h)
/-- A struct of known parts, under a guard that holds. -/
theorem wpList_buildN_g {rest : List Oper} (hw : Region.wanted o (yielded ops a.tmps) = true) (t : TypeId) (parts : Array (Nat × Operand)) (ho : o.op = .build t parts) (vals : List (Nat × Value)) (hv : parts.toList.map (fun (x : Nat × Operand) => (x.fst, a.eval x.snd)) = vals) (Z : Array Value) (hZ : P.built t vals = some Z)
    (h : wpList P ops Q rest (a.put o.dst (.agg Z)) W) : wpList P ops Q (o :: rest) a W := by
  rw [wpList, if_pos hw]
  refine .inl ?_
  unfold Oper.wp execOp
  simp only [ho, Sem.run_bind]
  rw [show parts.map (fun (x : Nat × Operand) => (x.fst, a.eval x.snd)) = vals.toArray from by subst hv; obtain ⟨l⟩ := parts; simp only [List.map_toArray], run_build W t _ Z hZ]
  exact h
end
end
end Go.Proofs.Yteofgkdpknaapaa
