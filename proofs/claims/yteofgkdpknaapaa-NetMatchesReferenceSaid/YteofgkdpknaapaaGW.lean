/- One walk along a chain in a region that draws its order; the floating blocks are told apart. -/
import Derived.Test.YteofgkdpknaapaaG1
namespace Go.Proofs.Yteofgkdpknaapaa
section
open Go Go.RowKit Go.Sort

/-- The blocks are different ones. -/
def Dist (fs : List Flo) (v : Nat → Value) : Prop := ∃ β : Nat → Nat, (∀ F ∈ fs, v F.f = F.val (β F.f)) ∧ ∀ F ∈ fs, ∀ G ∈ fs, F.f ≠ G.f → β F.f ≠ β G.f
def DistD (fs : List Flo) (v : Nat → Value) (D : Nat → Bool) (W : World) : Prop := ∃ β : Nat → Nat, (∀ F ∈ fs, D F.f = true → v F.f = F.val (β F.f) ∧ β F.f < W.heap.size) ∧ ∀ F ∈ fs, ∀ G ∈ fs, D F.f = true → D G.f = true → F.f ≠ G.f → β F.f ≠ β G.f
/-- What is met along the chain, whatever has been laid by then. -/
def webP2 (P : Program) (l : List Oper) (Q : Exit → Act → World → Prop) (w0 : World) (fs : List Flo) (fin : Act → World → Prop) : List Itm → Act → World → Prop
  | [], a, W => ∀ v W', Below W.heap.size W W' → (∀ F ∈ fs, Known w0 W' fs v F.f) → Dist fs v → fin (putS fs v a) W'
  | .act c need :: its, a, W => ∀ v W', Below W.heap.size W W' → (∀ f ∈ need, Known w0 W' fs v f) → ∀ o, l[c]? = some o → ∀ K : Act → World → Prop,
      (∀ a' W'', SlotsAre fs v a' → Below W'.heap.size W' W'' → webP2 P l Q w0 fs fin its a' W'' → K a' W'') →
      StepP P l.toArray Q o (putS fs v a) W' K
  | .plain is :: its, a, W => ∀ v W', Below W.heap.size W W' → wpQuiet P l.toArray (Ext w0) (fun a' => SlotsAre fs v a' ∧ webP2 P l Q w0 fs fin its a' W') (pickOps l is) (putS fs v a)

section
variable {P : Program} {Q : Exit → Act → World → Prop} {l : List Oper} {w0 : World} {fs : List Flo} {L0 : Array Bool} {rest : Nat} {fin : Act → World → Prop} {Lend : Array Bool}
/-- **ONE WALK ALONG THE CHAIN.** -/
theorem wpAnyH_web2 (hs0 : Region.noSelect l.toArray = true) (hQ : ∀ c a d v w, Q (.panic c) (Act.put a d v) w → Q (.panic c) a w) (hok : FlosOk P l Q fs) (hnf : (fs.map Flo.f).Nodup) (hnd : (fs.map Flo.d).Nodup)
    (hend : ∀ a W, fin a W → ∀ k, wpAnyH P .any l.toArray Q (Ext w0) (k + rest) Lend a W) :
    ∀ (m fuel : Nat) (dn : List Nat) (its : List Itm) (D : Nat → Bool) (L : Array Bool) (aa : Act) (WW : World) (a : Act) (W : World) (v : Nat → Value), fuel + its.length = m →
      webB l.toArray (fs.map Flo.f) L0 dn its = true → plainIts l its = true → webP2 P l Q w0 fs fin its a W → Below W.heap.size W WW → Ext w0 WW → Agr fs a aa → SlotsAre fs v aa →
      (∀ F ∈ fs, D F.f = true → ∃ B, v F.f = F.val B ∧ w0.heap.size ≤ B ∧ Blk WW B F.T F.Z) → DistD fs v D WW →
      L = setAll L0 (dn ++ (fs.map Flo.f).filter D) → Lend = setAll L0 (doneIdx dn its ++ fs.map Flo.f) →
      restOps its + ((fs.map Flo.f).filter fun i => !D i).length + rest ≤ fuel → wpAnyH P .any l.toArray Q (Ext w0) fuel L aa WW := by
  intro m
  induction m using Nat.strongRecOn with
  | _ m ih =>
  intro fuel dn its D L aa WW a W v hm hB hpl hw hb hE hag hsl hD hβ hL hLe hf
  -- a block is laid
  have lay : ∀ F ∈ fs, D F.f = false → ∀ fuel', fuel = fuel' + 1 → wpOp P l.toArray Q F.f (fun a' W' => Ext w0 W' ∧ wpAnyH P .any l.toArray Q (Ext w0) fuel' (L.setIfInBounds F.f true) a' W') aa WW := by
    intro F hF hDf fuel' hfu
    obtain ⟨o, ho, hF'⟩ := flosOk_mem hok F hF
    refine wpOp_step (by simpa using ho) fun K hK => ?_
    refine hF' aa WW K (hK _ _ ?_)
    have hb1 : Below WW.heap.size WW (WW.alloc (.cells F.Z F.T)) := (Below.refl _ _).alloc (Nat.le_refl _) _
    refine ⟨ext_trans hE (ext_of hb1), ?_⟩
    obtain ⟨v', hv1, hv2⟩ : ∃ v' : Nat → Value, v' F.f = F.val WW.heap.size ∧ ∀ g, g ≠ F.f → v' g = v g := ⟨fun f => if f = F.f then F.val WW.heap.size else v f, if_pos rfl, fun g hg => if_neg hg⟩
    refine ih (fuel' + its.length) (by omega) fuel' dn its (fun i => D i || i == F.f) _ _ _ a W v' rfl hB hpl hw (hb.trans (hb1.mono hb.size)) (ext_trans hE (ext_of hb1)) (hag.put hF _) ?_ ?_ ?_ ?_ hLe ?_
    · intro G hG
      have hs := hsl G hG
      refine ⟨?_, by simp [Act.put]; exact hs.2⟩
      by_cases he : G.f = F.f
      · obtain rfl := inj_of_nodup Flo.f hnf G hG F hF he
        rw [hv1]
        simp [Act.put, hs.2]
      · rw [hv2 _ he, ← hs.1]
        have hne : F.d ≠ G.d := fun e => he (by rw [inj_of_nodup Flo.d hnd F hF G hG e])
        simp [Act.put, hne]
    · intro G hG hDG
      by_cases he : G.f = F.f
      · obtain rfl := inj_of_nodup Flo.f hnf G hG F hF he
        exact ⟨WW.heap.size, hv1, (ext_below hE).size, Blk.new _ _ _⟩
      · have hDG' : D G.f = true := by
          have : (G.f == F.f) = false := by simpa using he
          simpa [this] using hDG
        obtain ⟨B, h1, h2, h3⟩ := hD G hG hDG'
        exact ⟨B, by rw [hv2 _ he]; exact h1, h2, h3.alloc _⟩
    · obtain ⟨β, h1, h2⟩ := hβ
      obtain ⟨β', k1, k2⟩ : ∃ β' : Nat → Nat, β' F.f = WW.heap.size ∧ ∀ g, g ≠ F.f → β' g = β g := ⟨fun f => if f = F.f then WW.heap.size else β f, if_pos rfl, fun g hg => if_neg hg⟩
      refine ⟨β', fun G hG hDG => ?_, fun G hG G' hG' hDG hDG' hne => ?_⟩
      · by_cases he : G.f = F.f
        · obtain rfl := inj_of_nodup Flo.f hnf G hG F hF he
          rw [hv1, k1]
          exact ⟨rfl, by rw [World.size_alloc]; omega⟩
        · have hDG' : D G.f = true := by
            have : (G.f == F.f) = false := by simpa using he
            simpa [this] using hDG
          rw [hv2 _ he, k2 _ he]
          exact ⟨(h1 G hG hDG').1, by rw [World.size_alloc]; have := (h1 G hG hDG').2; omega⟩
      · by_cases he : G.f = F.f
        · by_cases he' : G'.f = F.f
          · exact absurd (he.trans he'.symm) hne
          · have hD' : D G'.f = true := by
              have : (G'.f == F.f) = false := by simpa using he'
              simpa [this] using hDG'
            rw [he, k1, k2 _ he']
            have := (h1 G' hG' hD').2
            omega
        · have hD1 : D G.f = true := by
            have : (G.f == F.f) = false := by simpa using he
            simpa [this] using hDG
          by_cases he' : G'.f = F.f
          · rw [he', k1, k2 _ he]
            have := (h1 G hG hD1).2
            omega
          · have hD' : D G'.f = true := by
              have : (G'.f == F.f) = false := by simpa using he'
              simpa [this] using hDG'
            rw [k2 _ he, k2 _ he']
            exact h2 G hG G' hG' hD1 hD' hne
    · rw [hL, show (setAll L0 (dn ++ (fs.map Flo.f).filter D)).setIfInBounds F.f true = setAll (setAll L0 (dn ++ (fs.map Flo.f).filter D)) [F.f] from rfl, ← setAll_append]
      refine setAll_congr fun i => ?_
      have hm : F.f ∈ fs.map Flo.f := List.mem_map_of_mem hF
      simp only [List.mem_append, List.mem_filter, List.mem_singleton, Bool.or_eq_true, beq_iff_eq]
      constructor
      · rintro ((h | ⟨h1, h2⟩) | rfl)
        · exact .inl h
        · exact .inr ⟨h1, .inl h2⟩
        · exact .inr ⟨hm, .inr rfl⟩
      · rintro (h | ⟨h1, h2 | rfl⟩)
        · exact .inl (.inl h)
        · exact .inl (.inr ⟨h1, h2⟩)
        · exact .inr rfl
    · have := filter_lt (p := fun i => !D i) (q := fun i => !(D i || i == F.f)) (fun i hi => by simp at hi ⊢; exact hi.1) (List.mem_map_of_mem (f := Flo.f) hF) (by simp [hDf]) (by simp)
      omega
  have hsub := filter_subs D (fs.map Flo.f)
  have undone : ∀ i, (fs.map Flo.f).contains i = true → ((fs.map Flo.f).filter D).contains i = false → ∃ F ∈ fs, F.f = i ∧ D F.f = false := fun i h1 h2 => by
    obtain ⟨F, hF, rfl⟩ := List.mem_map.1 (by simpa using h1)
    refine ⟨F, hF, rfl, ?_⟩
    cases hDF : D F.f with
    | false => rfl
    | true =>
      have : F.f ∈ (fs.map Flo.f).filter D := List.mem_filter.2 ⟨List.mem_map_of_mem hF, hDF⟩
      rw [List.contains_iff_mem.2 this] at h2
      cases h2
  cases its with
  | nil =>
    have h1 := List.all_eq_true.1 hB _ hsub
    rw [Bool.or_eq_true] at h1
    rcases h1 with h1 | h1
    · have hall : (fs.map Flo.f).filter D = fs.map Flo.f := by simpa using h1
      rw [hall] at hL
      have := hend _ _ (hw v WW hb (fun F hF G hG e => by
        rw [← e]
        refine hD G hG ?_
        have : G.f ∈ (fs.map Flo.f).filter D := by rw [hall]; exact List.mem_map_of_mem hG
        exact (List.mem_filter.1 this).2) (by
        obtain ⟨β, h1, h2⟩ := hβ
        have hd : ∀ G ∈ fs, D G.f = true := fun G hG => by
          have : G.f ∈ (fs.map Flo.f).filter D := by rw [hall]; exact List.mem_map_of_mem hG
          exact (List.mem_filter.1 this).2
        exact ⟨β, fun F hF => (h1 F hF (hd F hF)).1, fun F hF G hG hne => h2 F hF G hG (hd F hF) (hd G hG) hne⟩)) (fuel - rest)
      rw [putS_agr hag hsl, show fuel - rest + rest = fuel from by simp only [restOps] at hf; omega] at this
      rw [hL, ← show Lend = setAll L0 (dn ++ fs.map Flo.f) from hLe]
      exact this
    · rw [Bool.and_eq_true, ← hL] at h1
      obtain ⟨h1, h2⟩ := h1
      have hfu : ∃ fuel', fuel = fuel' + 1 := by
        obtain ⟨i, hi⟩ : ∃ i, i ∈ Region.ready .any l.toArray L := by
          cases hr : Region.ready .any l.toArray L with
          | nil => rw [hr] at h2; simp at h2
          | cons x xs => exact ⟨x, by simp⟩
        have h3 := List.all_eq_true.1 h1 i hi
        rw [Bool.and_eq_true] at h3
        obtain ⟨F, hF, rfl, hDF⟩ := undone i h3.1 (by have := h3.2; rw [Bool.not_eq_true'] at this; exact this)
        have : F.f ∈ (fs.map Flo.f).filter fun i => !D i := List.mem_filter.2 ⟨List.mem_map_of_mem hF, by simp [hDF]⟩
        have := List.length_pos_of_mem this
        exact ⟨fuel - 1, by omega⟩
      obtain ⟨fuel', rfl⟩ := hfu
      refine wpAnyH_all rfl (by intro e; rw [e] at h2; simp at h2) fun i hi => ?_
      have h3 := List.all_eq_true.1 h1 i hi
      rw [Bool.and_eq_true] at h3
      obtain ⟨F, hF, rfl, hDF⟩ := undone i h3.1 (by have := h3.2; rw [Bool.not_eq_true'] at this; exact this)
      exact lay F hF hDF fuel' rfl
  | cons it its =>
    simp only [webB, Bool.and_eq_true] at hB
    obtain ⟨hB1, hB2⟩ := hB
    have h1 := List.all_eq_true.1 hB1 _ hsub
    rw [← hL] at h1
    cases it with
    | plain is =>
      simp only [stepB, Bool.and_eq_true] at h1
      simp only [plainIts, Bool.and_eq_true] at hpl
      have hlen : is.length ≤ fuel := by simp only [restOps, Itm.idx] at hf; omega
      rw [show fuel = is.length + (fuel - is.length) from by omega]
      refine wpAnyH_reads hs0 hQ is L aa WW hE h1.1 hpl.1 ?_
      have h2 := hw v WW hb
      rw [putS_agr hag hsl] at h2
      refine wpQuiet_mono' ?_ _ _ h2
      rintro a' ⟨hs', hw'⟩
      refine ih (fuel - is.length + its.length) (by simp at hm; omega) (fuel - is.length) (dn ++ is) its D _ a' WW a' WW v rfl hB2 hpl.2 hw' (Below.refl _ _) hE (Agr.refl _ _) hs' hD hβ ?_ hLe ?_
      · rw [hL, ← setAll_append]
        refine setAll_congr fun i => ?_
        simp only [List.mem_append]
        constructor
        · rintro ((h | h) | h)
          · exact .inl (.inl h)
          · exact .inr h
          · exact .inl (.inr h)
        · rintro ((h | h) | h)
          · exact .inl (.inl h)
          · exact .inr h
          · exact .inl (.inr h)
      · simp only [restOps, Itm.idx] at hf; omega
    | act c need =>
      simp only [stepB, Bool.and_eq_true] at h1
      simp only [plainIts, Bool.and_eq_true] at hpl
      obtain ⟨fuel', rfl⟩ : ∃ fuel', fuel = fuel' + 1 := ⟨fuel - 1, by simp only [restOps, Itm.idx, List.length_cons] at hf; omega⟩
      refine wpAnyH_all rfl (by intro e; rw [e] at h1; simp at h1) fun i hi => ?_
      have h3 := List.all_eq_true.1 h1.1 i hi
      rw [Bool.or_eq_true] at h3
      rcases h3 with h3 | h3
      · rw [Bool.and_eq_true] at h3
        obtain ⟨F, hF, rfl, hDF⟩ := undone i h3.1 (by have := h3.2; rw [Bool.not_eq_true'] at this; exact this)
        exact lay F hF hDF fuel' rfl
      · rw [Bool.and_eq_true] at h3
        obtain rfl : i = c := by simpa using h3.1
        obtain ⟨o, ho⟩ := Option.isSome_iff_exists.1 hpl.1
        refine wpOp_step (by simpa using ho) fun K hK => ?_
        have h2 := hw v WW hb (fun f hfn F hF e => by
          have := List.all_eq_true.1 h3.2 f hfn
          have hmem : f ∈ (fs.map Flo.f).filter D := by simpa using this
          rw [← e]
          exact hD F hF (by rw [e]; exact (List.mem_filter.1 hmem).2)) o ho K
        rw [putS_agr hag hsl] at h2
        refine h2 fun a' W' hs' hb' hw' => hK _ _ ⟨ext_trans hE (ext_of hb'), ?_⟩
        refine ih (fuel' + its.length) (by simp at hm; omega) fuel' (dn ++ [i]) its D _ a' W' a' W' v rfl hB2 hpl.2 hw' (Below.refl _ _) (ext_trans hE (ext_of hb')) (Agr.refl _ _) hs' ?_ ?_ ?_ hLe ?_
        · intro F hF hDF
          obtain ⟨B, q1, q2, q3⟩ := hD F hF hDF
          exact ⟨B, q1, q2, q3.below hb' q3.lt⟩
        · obtain ⟨β, h1, h2⟩ := hβ
          exact ⟨β, fun F hF hDF => ⟨(h1 F hF hDF).1, Nat.lt_of_lt_of_le (h1 F hF hDF).2 hb'.size⟩, h2⟩
        · rw [hL, show (setAll L0 (dn ++ (fs.map Flo.f).filter D)).setIfInBounds i true = setAll (setAll L0 (dn ++ (fs.map Flo.f).filter D)) [i] from rfl, ← setAll_append]
          refine setAll_congr fun j => ?_
          simp only [List.mem_append]
          constructor
          · rintro ((h | h) | h)
            · exact .inl (.inl h)
            · exact .inr h
            · exact .inl (.inr h)
          · rintro ((h | h) | h)
            · exact .inl (.inl h)
            · exact .inr h
            · exact .inl (.inr h)
        · simp only [restOps, Itm.idx, List.length_cons, List.length_nil] at hf; omega

/-- The beginning, in a region: nothing of the chain has come up, no block is laid. -/
theorem web2_start (its : List Itm) (a : Act) (W : World) (hs0 : Region.noSelect l.toArray = true) (hQ : ∀ c a d v w, Q (.panic c) (Act.put a d v) w → Q (.panic c) a w) (hok : FlosOk P l Q fs) (hnf : (fs.map Flo.f).Nodup) (hnd : (fs.map Flo.d).Nodup)
    (hB : webB l.toArray (fs.map Flo.f) L0 [] its = true) (hpl : plainIts l its = true) (hE : Ext w0 W) (hd : ∀ F ∈ fs, F.d < a.tmps.size) (fuel : Nat) (hf : restOps its + fs.length + rest ≤ fuel)
    (hend : ∀ a W, fin a W → ∀ k, wpAnyH P .any l.toArray Q (Ext w0) (k + rest) (setAll L0 (doneIdx [] its ++ fs.map Flo.f)) a W) (hw : webP2 P l Q w0 fs fin its a W) : wpAnyH P .any l.toArray Q (Ext w0) fuel L0 a W := by
  obtain ⟨v, hv⟩ := slots_exist hnf hd
  refine wpAnyH_web2 hs0 hQ hok hnf hnd hend (fuel + its.length) fuel [] its (fun _ => false) L0 a W a W v rfl hB hpl hw (Below.refl _ _) hE (Agr.refl _ _) hv (fun F hF h => by cases h) ⟨fun _ => 0, ⟨fun F _ (h : false = true) => Bool.noConfusion h, fun F _ G _ (h : false = true) => Bool.noConfusion h⟩⟩ ?_ rfl ?_
  · rw [List.filter_eq_nil_iff.2 (by simp)]; rfl
  · have h1 : ((fs.map Flo.f).filter fun _ => !false).length ≤ fs.length := by
      have := List.length_filter_le (fun _ => !false) (fs.map Flo.f)
      rwa [List.length_map] at this
    show restOps its + ((fs.map Flo.f).filter fun _ => !false).length + rest ≤ fuel
    omega
/-- .. nothing else in the region, ahead of its tail. -/
theorem web2_start0 (its : List Itm) (a : Act) (W : World) (hs0 : Region.noSelect l.toArray = true) (hQ : ∀ c a d v w, Q (.panic c) (Act.put a d v) w → Q (.panic c) a w) (hok : FlosOk P l Q fs) (hnf : (fs.map Flo.f).Nodup) (hnd : (fs.map Flo.d).Nodup)
    (hB : webB l.toArray (fs.map Flo.f) L0 [] its = true) (hpl : plainIts l its = true) (hE : Ext w0 W) (hd : ∀ F ∈ fs, F.d < a.tmps.size) (fuel : Nat) (hf : restOps its + fs.length ≤ fuel)
    (hr : Region.ready .any l.toArray (setAll L0 (doneIdx [] its ++ fs.map Flo.f)) = []) (hw : webP2 P l Q w0 fs (fun a W => Q .normal a W) its a W) : wpAnyH P .any l.toArray Q (Ext w0) fuel L0 a W :=
  web2_start (rest := 0) its a W hs0 hQ hok hnf hnd hB hpl hE hd fuel (by omega) (fun _ _ h k => wpAnyH_done hr h _) hw
end
end
end Go.Proofs.Yteofgkdpknaapaa
