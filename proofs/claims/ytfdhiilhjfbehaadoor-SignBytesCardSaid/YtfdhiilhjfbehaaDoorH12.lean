/- A region that draws its order of evaluation: a chain of operations, each waiting for the one before it; blocks that are laid at whatever point; copies. One walk along the chain, whatever has been laid by then. -/
import Derived.Test.YtfdhiilhjfbehaaDoorH11
namespace Go.Proofs.YtfdhiilhjfbehaaDoor
section
open Go Go.RowKit Go.Sort

/-- An operation that lays a block and yields a value made of the block's number. -/
structure Flo where
  (f d : Nat) (T : TypeId) (Z : Array Value) (val : Nat → Value)
/-- A stretch of the chain: one operation that waits for some of the blocks, or copies. -/
inductive Itm where
  | act (c : Nat) (need : List Nat)
  | plain (is : List Nat)
def Itm.idx : Itm → List Nat
  | .act c _ => [c]
  | .plain is => is
def FloOk (P : Program) (ops : Array Oper) (Q : Exit → Act → World → Prop) (o : Oper) (F : Flo) : Prop :=
  ∀ (a : Act) (W : World) (K : Act → World → Prop), K (a.put (some F.d) (F.val W.heap.size)) (W.alloc (.cells F.Z F.T)) → if Region.wanted o (yielded ops a.tmps) = true then Oper.wp P o a W K Q else K (a.put o.dst undef) W
def FlosOk (P : Program) (l : List Oper) (Q : Exit → Act → World → Prop) : List Flo → Prop
  | [] => True
  | F :: Fs => (∃ o, l[F.f]? = some o ∧ FloOk P l.toArray Q o F) ∧ FlosOk P l Q Fs
/-- The blocks' values, put into their slots. -/
def putS (fs : List Flo) (v : Nat → Value) (a : Act) : Act := fs.foldl (fun a F => a.put (some F.d) (v F.f)) a
def Known (w0 W : World) (fs : List Flo) (v : Nat → Value) (f : Nat) : Prop := ∀ F ∈ fs, F.f = f → ∃ B, v f = F.val B ∧ w0.heap.size ≤ B ∧ Blk W B F.T F.Z
def SlotsAre (fs : List Flo) (v : Nat → Value) (a : Act) : Prop := ∀ F ∈ fs, a.tmps.getD F.d undef = v F.f ∧ F.d < a.tmps.size
/-- One operation is carried out. -/
def StepP (P : Program) (ops : Array Oper) (Q : Exit → Act → World → Prop) (o : Oper) (a : Act) (W : World) (K : Act → World → Prop) : Prop :=
  if Region.wanted o (yielded ops a.tmps) = true then Oper.wp P o a W K Q else K (a.put o.dst undef) W
/-- What is met along the chain, whatever has been laid by then. -/
def webP (P : Program) (l : List Oper) (Q : Exit → Act → World → Prop) (w0 : World) (fs : List Flo) (fin : Act → World → Prop) : List Itm → Act → World → Prop
  | [], a, W => ∀ v W', Below W.heap.size W W' → (∀ F ∈ fs, Known w0 W' fs v F.f) → fin (putS fs v a) W'
  | .act c need :: its, a, W => ∀ v W', Below W.heap.size W W' → (∀ f ∈ need, Known w0 W' fs v f) → ∀ o, l[c]? = some o → ∀ K : Act → World → Prop,
      (∀ a' W'', SlotsAre fs v a' → Below W'.heap.size W' W'' → webP P l Q w0 fs fin its a' W'' → K a' W'') →
      StepP P l.toArray Q o (putS fs v a) W' K
  | .plain is :: its, a, W => ∀ v W', Below W.heap.size W W' → wpQuiet P l.toArray (Ext w0) (fun a' => SlotsAre fs v a' ∧ webP P l Q w0 fs fin its a' W') (pickOps l is) (putS fs v a)

def subsL : List Nat → List (List Nat)
  | [] => [[]]
  | x :: xs => subsL xs ++ (subsL xs).map (x :: ·)
theorem filter_subs (D : Nat → Bool) : ∀ fs : List Nat, fs.filter D ∈ subsL fs
  | [] => by simp [subsL]
  | x :: xs => by
    simp only [subsL, List.mem_append, List.mem_map, List.filter_cons]
    by_cases h : D x = true
    · rw [if_pos h]; exact .inr ⟨_, filter_subs D xs, rfl⟩
    · rw [if_neg h]; exact .inl (filter_subs D xs)
def stepB (h : Array Oper) (fs : List Nat) (L : Array Bool) (it : Itm) (S : List Nat) : Bool := match it with
  | .act c need => (Region.ready .any h L).all (fun i => (fs.contains i && !S.contains i) || (i == c && need.all fun f => S.contains f)) && !(Region.ready .any h L).isEmpty
  | .plain is => orderB .any h is L && is.all fun i => !fs.contains i
/-- Every order is one that the walk follows. -/
def webB (h : Array Oper) (fs : List Nat) (L0 : Array Bool) : List Nat → List Itm → Bool
  | dn, [] => (subsL fs).all fun S => S == fs || ((Region.ready .any h (setAll L0 (dn ++ S))).all (fun i => fs.contains i && !S.contains i) && !(Region.ready .any h (setAll L0 (dn ++ S))).isEmpty)
  | dn, it :: its => (subsL fs).all (fun S => stepB h fs (setAll L0 (dn ++ S)) it S) && webB h fs L0 (dn ++ it.idx) its

theorem setAll_get : ∀ (is : List Nat) (L : Array Bool) (i : Nat), (setAll L is)[i]? = if i ∈ is ∧ i < L.size then some true else L[i]?
  | [], L, i => by simp [setAll]
  | j :: is, L, i => by
    rw [show setAll L (j :: is) = setAll (L.setIfInBounds j true) is from rfl, setAll_get is]
    simp only [Array.size_setIfInBounds, Array.getElem?_setIfInBounds, List.mem_cons]
    by_cases h1 : i ∈ is <;> by_cases h2 : i < L.size <;> by_cases h3 : j = i <;> simp_all <;> (try (subst h3; simp_all)) <;> (try exact fun e => absurd e.symm h3)
theorem setAll_congr {L : Array Bool} {is js : List Nat} (h : ∀ i, i ∈ is ↔ i ∈ js) : setAll L is = setAll L js := by
  apply Array.ext_getElem?
  intro i
  rw [setAll_get, setAll_get]
  simp [h i]
theorem setAll_append (L : Array Bool) (is js : List Nat) : setAll L (is ++ js) = setAll (setAll L is) js := by unfold setAll; exact List.foldl_append

theorem putS_same {fs : List Flo} {v : Nat → Value} {a : Act} (h : SlotsAre fs v a) : putS fs v a = a := by
  induction fs with
  | nil => rfl
  | cons F Fs ih =>
    unfold putS
    rw [List.foldl_cons, put_same (h F (by simp)).1]
    exact ih fun G hG => h G (by simp [hG])
/-- The frame is that of the chain, but for the blocks' slots. -/
def Agr (fs : List Flo) (a aa : Act) : Prop := aa.defers = a.defers ∧ aa.tmps.size = a.tmps.size ∧ ∀ i, (∀ F ∈ fs, F.d ≠ i) → aa.tmps[i]? = a.tmps[i]?
theorem Agr.refl (fs : List Flo) (a : Act) : Agr fs a a := ⟨rfl, rfl, fun _ _ => rfl⟩
theorem Agr.put {fs : List Flo} {a aa : Act} (h : Agr fs a aa) {F : Flo} (hF : F ∈ fs) (x : Value) : Agr fs a (aa.put (some F.d) x) := by
  refine ⟨h.1, by simp [Act.put, h.2.1], fun i hi => ?_⟩
  unfold Act.put
  simp only
  rw [Array.getElem?_setIfInBounds, if_neg (hi F hF)]
  exact h.2.2 i hi
theorem putS_agr {v : Nat → Value} {aa : Act} : ∀ {fs : List Flo} {a : Act}, Agr fs a aa → SlotsAre fs v aa → putS fs v a = aa
  | [], a, h, _ => by
    cases a; cases aa
    obtain ⟨h1, h2, h3⟩ := h
    simp only at h1 h2 h3
    subst h1
    show Act.mk _ _ = Act.mk _ _
    congr 1
    exact Array.ext_getElem? fun i => (h3 i (fun F hF => by simp at hF)).symm
  | F :: Fs, a, h, hs => by
    have hF := hs F (by simp)
    show putS Fs v (a.put (some F.d) (v F.f)) = aa
    refine putS_agr ⟨h.1, by simp [Act.put, h.2.1], fun i hi => ?_⟩ fun G hG => hs G (by simp [hG])
    unfold Act.put
    simp only
    rw [Array.getElem?_setIfInBounds]
    split
    · rename_i e
      subst e
      have hd : F.d < a.tmps.size := by rw [← h.2.1]; exact hF.2
      rw [if_pos hd, ← hF.1]
      simp [hF.2]
    · rename_i e
      exact h.2.2 i (fun G hG => by
        rcases List.mem_cons.1 hG with rfl | hG
        · exact e
        · exact hi G hG)
theorem inj_of_nodup {β : Type} (g : Flo → β) : ∀ {fs : List Flo}, (fs.map g).Nodup → ∀ F ∈ fs, ∀ G ∈ fs, g F = g G → F = G
  | [], _, F, hF, _, _, _ => by simp at hF
  | X :: Xs, h, F, hF, G, hG, e => by
    rw [List.map_cons, List.nodup_cons] at h
    rcases List.mem_cons.1 hF with rfl | hF'
    · rcases List.mem_cons.1 hG with rfl | hG'
      · rfl
      · exact absurd (by rw [e]; exact List.mem_map_of_mem hG') h.1
    · rcases List.mem_cons.1 hG with rfl | hG'
      · exact absurd (by rw [← e]; exact List.mem_map_of_mem hF') h.1
      · exact inj_of_nodup g h.2 F hF' G hG' e
theorem flosOk_mem {P : Program} {l : List Oper} {Q : Exit → Act → World → Prop} : ∀ {fs : List Flo}, FlosOk P l Q fs → ∀ F ∈ fs, ∃ o, l[F.f]? = some o ∧ FloOk P l.toArray Q o F
  | [], _, F, hF => by simp at hF
  | X :: Xs, h, F, hF => by
    rcases List.mem_cons.1 hF with rfl | hF
    · exact h.1
    · exact flosOk_mem h.2 F hF
theorem slots_exist {fs : List Flo} (hf : (fs.map Flo.f).Nodup) {a : Act} (hd : ∀ F ∈ fs, F.d < a.tmps.size) : ∃ v, SlotsAre fs v a := by
  refine ⟨fun f => match fs.find? (fun F => F.f == f) with | some F => a.tmps.getD F.d undef | none => undef, fun F hF => ⟨?_, hd F hF⟩⟩
  cases hfd : fs.find? (fun G => G.f == F.f) with
  | none => exact absurd (List.find?_eq_none.1 hfd F hF) (by simp)
  | some G =>
    have h1 := List.mem_of_find?_eq_some hfd
    have h2 : G.f = F.f := by simpa using List.find?_some hfd
    obtain rfl := inj_of_nodup Flo.f hf G h1 F hF h2
    simp only [hfd]

section
variable {P : Program} {Q : Exit → Act → World → Prop} {l : List Oper} {w0 : World} {fs : List Flo} {L0 : Array Bool} {rest : Nat} {fin : Act → World → Prop} {Lend : Array Bool}
def restOps : List Itm → Nat
  | [] => 0
  | it :: its => it.idx.length + restOps its
def doneIdx : List Nat → List Itm → List Nat
  | dn, [] => dn
  | dn, it :: its => doneIdx (dn ++ it.idx) its

theorem filter_le {p q : Nat → Bool} (h : ∀ i, q i = true → p i = true) : ∀ l : List Nat, (l.filter q).length ≤ (l.filter p).length
  | [] => by simp
  | x :: xs => by
    have ih := filter_le h xs
    have hx := h x
    rw [List.filter_cons, List.filter_cons]
    cases hq : q x <;> cases hp : p x <;> simp_all <;> omega
theorem filter_lt {p q : Nat → Bool} (h : ∀ i, q i = true → p i = true) : ∀ {l : List Nat} {f : Nat}, f ∈ l → p f = true → q f = false → (l.filter q).length < (l.filter p).length
  | [], f, hf, _, _ => by simp at hf
  | x :: xs, f, hf, hp, hq => by
    rw [List.filter_cons, List.filter_cons]
    by_cases hx : x = f
    · subst hx
      have := filter_le h xs
      rw [hp, hq]
      simp
      omega
    · have hf' : f ∈ xs := by
        rcases List.mem_cons.1 hf with rfl | h'
        · exact absurd rfl hx
        · exact h'
      have ih := filter_lt h hf' hp hq
      have hx' := h x
      cases hq' : q x <;> cases hp' : p x <;> simp_all <;> omega
def plainIts (l : List Oper) : List Itm → Bool
  | [] => true
  | .act c _ :: its => (l[c]?).isSome && plainIts l its
  | .plain is :: its => (pickOps l is).all plainOp && plainIts l its
/-- **ONE WALK ALONG THE CHAIN.** -/
theorem wpAnyH_web (hs0 : Region.noSelect l.toArray = true) (hQ : ∀ c a d v w, Q (.panic c) (Act.put a d v) w → Q (.panic c) a w) (hok : FlosOk P l Q fs) (hnf : (fs.map Flo.f).Nodup) (hnd : (fs.map Flo.d).Nodup)
    (hend : ∀ a W, fin a W → ∀ k, wpAnyH P .any l.toArray Q (Ext w0) (k + rest) Lend a W) :
    ∀ (m fuel : Nat) (dn : List Nat) (its : List Itm) (D : Nat → Bool) (L : Array Bool) (aa : Act) (WW : World) (a : Act) (W : World) (v : Nat → Value), fuel + its.length = m →
      webB l.toArray (fs.map Flo.f) L0 dn its = true → plainIts l its = true → webP P l Q w0 fs fin its a W → Below W.heap.size W WW → Ext w0 WW → Agr fs a aa → SlotsAre fs v aa →
      (∀ F ∈ fs, D F.f = true → ∃ B, v F.f = F.val B ∧ w0.heap.size ≤ B ∧ Blk WW B F.T F.Z) →
      L = setAll L0 (dn ++ (fs.map Flo.f).filter D) → Lend = setAll L0 (doneIdx dn its ++ fs.map Flo.f) →
      restOps its + ((fs.map Flo.f).filter fun i => !D i).length + rest ≤ fuel → wpAnyH P .any l.toArray Q (Ext w0) fuel L aa WW := by
  intro m
  induction m using Nat.strongRecOn with
  | _ m ih =>
  intro fuel dn its D L aa WW a W v hm hB hpl hw hb hE hag hsl hD hL hLe hf
  -- a block is laid
  have lay : ∀ F ∈ fs, D F.f = false → ∀ fuel', fuel = fuel' + 1 → wpOp P l.toArray Q F.f (fun a' W' => Ext w0 W' ∧ wpAnyH P .any l.toArray Q (Ext w0) fuel' (L.setIfInBounds F.f true) a' W') aa WW := by
    intro F hF hDf fuel' hfu
    obtain ⟨o, ho, hF'⟩ := flosOk_mem hok F hF
    refine wpOp_step (by simpa using ho) fun K hK => ?_
    refine hF' aa WW K (hK _ _ ?_)
    have hb1 : Below WW.heap.size WW (WW.alloc (.cells F.Z F.T)) := (Below.refl _ _).alloc (Nat.le_refl _) _
    refine ⟨ext_trans hE (ext_of hb1), ?_⟩
    obtain ⟨v', hv1, hv2⟩ : ∃ v' : Nat → Value, v' F.f = F.val WW.heap.size ∧ ∀ g, g ≠ F.f → v' g = v g := ⟨fun f => if f = F.f then F.val WW.heap.size else v f, if_pos rfl, fun g hg => if_neg hg⟩
    refine ih (fuel' + its.length) (by omega) fuel' dn its (fun i => D i || i == F.f) _ _ _ a W v' rfl hB hpl hw (hb.trans (hb1.mono hb.size)) (ext_trans hE (ext_of hb1)) (hag.put hF _) ?_ ?_ ?_ hLe ?_
    · intro G hG
      have hs := hsl G hG
      refine ⟨?_, by simp [Act.put]; exact hs.2⟩
      by_cases he : G.f = F.f
      · obtain rfl := inj_of_nodup Flo.f hnf G hG F hF he
        rw [hv1]
        simp [Act.put, hs.2]
      · rw [hv2 _ he, ← hs.1]
        have hne : F.d ≠ G.d := fun e => he (by rw [inj_of_nodup Flo.d hnd F hF G hG e])
        simp [Act.put, hne]
    · intro G hG hDG
      by_cases he : G.f = F.f
      · obtain rfl := inj_of_nodup Flo.f hnf G hG F hF he
        exact ⟨WW.heap.size, hv1, (ext_below hE).size, Blk.new _ _ _⟩
      · have hDG' : D G.f = true := by
          have : (G.f == F.f) = false := by simpa using he
          simpa [this] using hDG
        obtain ⟨B, h1, h2, h3⟩ := hD G hG hDG'
        exact ⟨B, by rw [hv2 _ he]; exact h1, h2, h3.alloc _⟩
    · rw [hL, show (setAll L0 (dn ++ (fs.map Flo.f).filter D)).setIfInBounds F.f true = setAll (setAll L0 (dn ++ (fs.map Flo.f).filter D)) [F.f] from rfl, ← setAll_append]
      refine setAll_congr fun i => ?_
      have hm : F.f ∈ fs.map Flo.f := List.mem_map_of_mem hF
      simp only [List.mem_append, List.mem_filter, List.mem_singleton, Bool.or_eq_true, beq_iff_eq]
      constructor
      · rintro ((h | ⟨h1, h2⟩) | rfl)
        · exact .inl h
        · exact .inr ⟨h1, .inl h2⟩
        · exact .inr ⟨hm, .inr rfl⟩
      · rintro (h | ⟨h1, h2 | rfl⟩)
        · exact .inl (.inl h)
        · exact .inl (.inr ⟨h1, h2⟩)
        · exact .inr rfl
    · have := filter_lt (p := fun i => !D i) (q := fun i => !(D i || i == F.f)) (fun i hi => by simp at hi ⊢; exact hi.1) (List.mem_map_of_mem (f := Flo.f) hF) (by simp [hDf]) (by simp)
      omega
  have hsub := filter_subs D (fs.map Flo.f)
  have undone : ∀ i, (fs.map Flo.f).contains i = true → ((fs.map Flo.f).filter D).contains i = false → ∃ F ∈ fs, F.f = i ∧ D F.f = false := fun i h1 h2 => by
    obtain ⟨F, hF, rfl⟩ := List.mem_map.1 (by simpa using h1)
    refine ⟨F, hF, rfl, ?_⟩
    cases hDF : D F.f with
    | false => rfl
    | true =>
      have : F.f ∈ (fs.map Flo.f).filter D := List.mem_filter.2 ⟨List.mem_map_of_mem hF, hDF⟩
      rw [List.contains_iff_mem.2 this] at h2
      cases h2
  cases its with
  | nil =>
    have h1 := List.all_eq_true.1 hB _ hsub
    rw [Bool.or_eq_true] at h1
    rcases h1 with h1 | h1
    · have hall : (fs.map Flo.f).filter D = fs.map Flo.f := by simpa using h1
      rw [hall] at hL
      have := hend _ _ (hw v WW hb fun F hF G hG e => by
        rw [← e]
        refine hD G hG ?_
        have : G.f ∈ (fs.map Flo.f).filter D := by rw [hall]; exact List.mem_map_of_mem hG
        exact (List.mem_filter.1 this).2) (fuel - rest)
      rw [putS_agr hag hsl, show fuel - rest + rest = fuel from by simp only [restOps] at hf; omega] at this
      rw [hL, ← show Lend = setAll L0 (dn ++ fs.map Flo.f) from hLe]
      exact this
    · rw [Bool.and_eq_true, ← hL] at h1
      obtain ⟨h1, h2⟩ := h1
      have hfu : ∃ fuel', fuel = fuel' + 1 := by
        obtain ⟨i, hi⟩ : ∃ i, i ∈ Region.ready .any l.toArray L := by
          cases hr : Region.ready .any l.toArray L with
          | nil => rw [hr] at h2; simp at h2
          | cons x xs => exact ⟨x, by simp⟩
        have h3 := List.all_eq_true.1 h1 i hi
        rw [Bool.and_eq_true] at h3
        obtain ⟨F, hF, rfl, hDF⟩ := undone i h3.1 (by have := h3.2; rw [Bool.not_eq_true'] at this; exact this)
        have : F.f ∈ (fs.map Flo.f).filter fun i => !D i := List.mem_filter.2 ⟨List.mem_map_of_mem hF, by simp [hDF]⟩
        have := List.length_pos_of_mem this
        exact ⟨fuel - 1, by omega⟩
      obtain ⟨fuel', rfl⟩ := hfu
      refine wpAnyH_all rfl (by intro e; rw [e] at h2; simp at h2) fun i hi => ?_
      have h3 := List.all_eq_true.1 h1 i hi
      rw [Bool.and_eq_true] at h3
      obtain ⟨F, hF, rfl, hDF⟩ := undone i h3.1 (by have := h3.2; rw [Bool.not_eq_true'] at this; exact this)
      exact lay F hF hDF fuel' rfl
  | cons it its =>
    simp only [webB, Bool.and_eq_true] at hB
    obtain ⟨hB1, hB2⟩ := hB
    have h1 := List.all_eq_true.1 hB1 _ hsub
    rw [← hL] at h1
    cases it with
    | plain is =>
      simp only [stepB, Bool.and_eq_true] at h1
      simp only [plainIts, Bool.and_eq_true] at hpl
      have hlen : is.length ≤ fuel := by simp only [restOps, Itm.idx] at hf; omega
      rw [show fuel = is.length + (fuel - is.length) from by omega]
      refine wpAnyH_reads hs0 hQ is L aa WW hE h1.1 hpl.1 ?_
      have h2 := hw v WW hb
      rw [putS_agr hag hsl] at h2
      refine wpQuiet_mono' ?_ _ _ h2
      rintro a' ⟨hs', hw'⟩
      refine ih (fuel - is.length + its.length) (by simp at hm; omega) (fuel - is.length) (dn ++ is) its D _ a' WW a' WW v rfl hB2 hpl.2 hw' (Below.refl _ _) hE (Agr.refl _ _) hs' hD ?_ hLe ?_
      · rw [hL, ← setAll_append]
        refine setAll_congr fun i => ?_
        simp only [List.mem_append]
        constructor
        · rintro ((h | h) | h)
          · exact .inl (.inl h)
          · exact .inr h
          · exact .inl (.inr h)
        · rintro ((h | h) | h)
          · exact .inl (.inl h)
          · exact .inr h
          · exact .inl (.inr h)
      · simp only [restOps, Itm.idx] at hf; omega
    | act c need =>
      simp only [stepB, Bool.and_eq_true] at h1
      simp only [plainIts, Bool.and_eq_true] at hpl
      obtain ⟨fuel', rfl⟩ : ∃ fuel', fuel = fuel' + 1 := ⟨fuel - 1, by simp only [restOps, Itm.idx, List.length_cons] at hf; omega⟩
      refine wpAnyH_all rfl (by intro e; rw [e] at h1; simp at h1) fun i hi => ?_
      have h3 := List.all_eq_true.1 h1.1 i hi
      rw [Bool.or_eq_true] at h3
      rcases h3 with h3 | h3
      · rw [Bool.and_eq_true] at h3
        obtain ⟨F, hF, rfl, hDF⟩ := undone i h3.1 (by have := h3.2; rw [Bool.not_eq_true'] at this; exact this)
        exact lay F hF hDF fuel' rfl
      · rw [Bool.and_eq_true] at h3
        obtain rfl : i = c := by simpa using h3.1
        obtain ⟨o, ho⟩ := Option.isSome_iff_exists.1 hpl.1
        refine wpOp_step (by simpa using ho) fun K hK => ?_
        have h2 := hw v WW hb (fun f hfn F hF e => by
          have := List.all_eq_true.1 h3.2 f hfn
          have hmem : f ∈ (fs.map Flo.f).filter D := by simpa using this
          rw [← e]
          exact hD F hF (by rw [e]; exact (List.mem_filter.1 hmem).2)) o ho K
        rw [putS_agr hag hsl] at h2
        refine h2 fun a' W' hs' hb' hw' => hK _ _ ⟨ext_trans hE (ext_of hb'), ?_⟩
        refine ih (fuel' + its.length) (by simp at hm; omega) fuel' (dn ++ [i]) its D _ a' W' a' W' v rfl hB2 hpl.2 hw' (Below.refl _ _) (ext_trans hE (ext_of hb')) (Agr.refl _ _) hs' ?_ ?_ hLe ?_
        · intro F hF hDF
          obtain ⟨B, q1, q2, q3⟩ := hD F hF hDF
          exact ⟨B, q1, q2, q3.below hb' q3.lt⟩
        · rw [hL, show (setAll L0 (dn ++ (fs.map Flo.f).filter D)).setIfInBounds i true = setAll (setAll L0 (dn ++ (fs.map Flo.f).filter D)) [i] from rfl, ← setAll_append]
          refine setAll_congr fun j => ?_
          simp only [List.mem_append]
          constructor
          · rintro ((h | h) | h)
            · exact .inl (.inl h)
            · exact .inr h
            · exact .inl (.inr h)
          · rintro ((h | h) | h)
            · exact .inl (.inl h)
            · exact .inr h
            · exact .inl (.inr h)
        · simp only [restOps, Itm.idx, List.length_cons, List.length_nil] at hf; omega

/-- The beginning, in a region: nothing of the chain has come up, no block is laid. -/
theorem web_start (its : List Itm) (a : Act) (W : World) (hs0 : Region.noSelect l.toArray = true) (hQ : ∀ c a d v w, Q (.panic c) (Act.put a d v) w → Q (.panic c) a w) (hok : FlosOk P l Q fs) (hnf : (fs.map Flo.f).Nodup) (hnd : (fs.map Flo.d).Nodup)
    (hB : webB l.toArray (fs.map Flo.f) L0 [] its = true) (hpl : plainIts l its = true) (hE : Ext w0 W) (hd : ∀ F ∈ fs, F.d < a.tmps.size) (fuel : Nat) (hf : restOps its + fs.length + rest ≤ fuel)
    (hend : ∀ a W, fin a W → ∀ k, wpAnyH P .any l.toArray Q (Ext w0) (k + rest) (setAll L0 (doneIdx [] its ++ fs.map Flo.f)) a W) (hw : webP P l Q w0 fs fin its a W) : wpAnyH P .any l.toArray Q (Ext w0) fuel L0 a W := by
  obtain ⟨v, hv⟩ := slots_exist hnf hd
  refine wpAnyH_web hs0 hQ hok hnf hnd hend (fuel + its.length) fuel [] its (fun _ => false) L0 a W a W v rfl hB hpl hw (Below.refl _ _) hE (Agr.refl _ _) hv (fun F hF h => by cases h) ?_ rfl ?_
  · rw [List.filter_eq_nil_iff.2 (by simp)]; rfl
  · have h1 : ((fs.map Flo.f).filter fun _ => !false).length ≤ fs.length := by
      have := List.length_filter_le (fun _ => !false) (fs.map Flo.f)
      rwa [List.length_map] at this
    show restOps its + ((fs.map Flo.f).filter fun _ => !false).length + rest ≤ fuel
    omega
/-- .. nothing else in the region, ahead of its tail. -/
theorem web_start0 (its : List Itm) (a : Act) (W : World) (hs0 : Region.noSelect l.toArray = true) (hQ : ∀ c a d v w, Q (.panic c) (Act.put a d v) w → Q (.panic c) a w) (hok : FlosOk P l Q fs) (hnf : (fs.map Flo.f).Nodup) (hnd : (fs.map Flo.d).Nodup)
    (hB : webB l.toArray (fs.map Flo.f) L0 [] its = true) (hpl : plainIts l its = true) (hE : Ext w0 W) (hd : ∀ F ∈ fs, F.d < a.tmps.size) (fuel : Nat) (hf : restOps its + fs.length ≤ fuel)
    (hr : Region.ready .any l.toArray (setAll L0 (doneIdx [] its ++ fs.map Flo.f)) = []) (hw : webP P l Q w0 fs (fun a W => Q .normal a W) its a W) : wpAnyH P .any l.toArray Q (Ext w0) fuel L0 a W :=
  web_start (rest := 0) its a W hs0 hQ hok hnf hnd hB hpl hE hd fuel (by omega) (fun _ _ h k => wpAnyH_done hr h _) hw
end
end
end Go.Proofs.YtfdhiilhjfbehaaDoor
