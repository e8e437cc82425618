/- Package graph's reference: what holds in All's loops. -/
import Derived.Test.YtgelchbbknckcaaG30
namespace Go.Proofs.Ytgelchbbknckcaa
open Go.RowKit Go.Sort

/-- After r rounds, and the links below j of the next one. -/
structure BA (vs : List Int) (ls : List Ln) (lim : Nd) (fr : Int) (r j : Nat) (outs : List Wm) : Prop where
  len : outs.length = vs.length
  short : ∀ x ∈ outs, x.w.2.length ≤ r * ls.length + j ∧ x.w.1 ≤ x.w.2.length * 1000000 ∧ x.kn = false
  st : (fr ∉ vs ∧ outs.map wyO = List.replicate vs.length none) ∨ ∃ s, vs[s]? = some fr ∧ s < vs.length ∧ Gr.BF (lksN vs lim ls) vs.length s (outs.map wyO) r j
theorem wyO_wm0 : wyO wm0 = none := rfl
theorem BA.none {vs : List Int} {ls : List Ln} {lim : Nd} {fr : Int} (h : fr ∉ vs) : BA vs ls lim fr 0 0 (List.replicate vs.length wm0) :=
  ⟨by simp, fun x hx => by rw [List.eq_of_mem_replicate hx]; exact ⟨Nat.zero_le _, Nat.zero_le _, rfl⟩, .inl ⟨h, by rw [List.map_replicate]; rfl⟩⟩
theorem BA.start {vs : List Int} {ls : List Ln} {lim : Nd} {fr : Int} {s : Nat} (h : vs[s]? = some fr) : BA vs ls lim fr 0 0 (outs0 vs.length s) := by
  have hs := (List.getElem?_eq_some_iff.1 h).1
  refine ⟨outs0_len _ _, fun x hx => ?_, .inr ⟨s, h, hs, by rw [outs0_wy]; exact Gr.bf_start _ _ _ hs⟩⟩
  rcases List.mem_or_eq_of_mem_set hx with h | h
  · rw [List.eq_of_mem_replicate h]; exact ⟨Nat.zero_le _, Nat.zero_le _, rfl⟩
  · rw [h]; exact ⟨Nat.zero_le _, Nat.zero_le _, rfl⟩
theorem BA.next {vs : List Int} {ls : List Ln} {lim : Nd} {fr : Int} {r : Nat} {outs : List Wm} (h : BA vs ls lim fr r ls.length outs) : BA vs ls lim fr (r + 1) 0 outs := by
  refine ⟨h.len, fun x hx => ?_, ?_⟩
  · obtain ⟨h1, h2, h3⟩ := h.short x hx
    refine ⟨?_, h2, h3⟩
    rw [Nat.add_mul, Nat.one_mul]; omega
  · rcases h.st with h | ⟨s, h1, h2, h3⟩
    · exact .inl h
    · exact .inr ⟨s, h1, h2, Gr.bf_next (by rw [show (lksN vs lim ls).length = ls.length from by unfold lksN; simp]; exact h3)⟩
theorem map_wy {outs : List Wm} {u : Nat} {x : Wm} (h : outs[u]? = some x) : (outs.map wyO)[u]? = some (wyO x) := by rw [List.getElem?_map, h]; rfl
theorem BA.skip {vs : List Int} {ls : List Ln} {lim : Nd} {fr : Int} {r j u : Nat} {outs : List Wm} {l : Ln} {x : Wm} (hv : Vg vs ls) (h : BA vs ls lim fr r j outs) (hl : ls[j]? = some l) (hu : vs[u]? = some l.f) (hx : outs[u]? = some x) (hn : x.f = false ∨ fitsB l.n lim = false) : BA vs ls lim fr r (j + 1) outs := by
  obtain ⟨t, _, _, ht⟩ := idx_lt (hv.ln j l hl).2.1
  refine ⟨h.len, fun y hy => ?_, ?_⟩
  · obtain ⟨h1, h2, h3⟩ := h.short y hy
    exact ⟨by omega, h2, h3⟩
  · rcases h.st with h | ⟨s, h1, h2, h3⟩
    · exact .inl h
    · refine .inr ⟨s, h1, h2, Gr.bf_skip h3 (hv.at_ lim hl hu ht) ?_⟩
      rcases hn with hn | hn
      · exact .inr (by rw [map_wy hx]; simp [wyO, hn])
      · exact .inl hn
theorem BA.found {vs : List Int} {ls : List Ln} {lim : Nd} {fr : Int} {r j u : Nat} {outs : List Wm} {x : Wm} (h : BA vs ls lim fr r j outs) (hx : outs[u]? = some x) (hf : x.f = true) : ∃ s, vs[s]? = some fr ∧ s < vs.length ∧ Gr.BF (lksN vs lim ls) vs.length s (outs.map wyO) r j := by
  rcases h.st with ⟨_, h⟩ | h
  · have h1 := map_wy hx
    rw [h] at h1
    have := List.eq_of_mem_replicate (List.mem_of_getElem? h1)
    simp [wyO, hf] at this
  · exact h
theorem BA.keep {vs : List Int} {ls : List Ln} {lim : Nd} {fr : Int} {r j u t : Nat} {outs : List Wm} {l : Ln} {x y : Wm} (hv : Vg vs ls) (h : BA vs ls lim fr r j outs) (hl : ls[j]? = some l) (hu : vs[u]? = some l.f) (ht : vs[t]? = some l.t) (hx : outs[u]? = some x) (hy : outs[t]? = some y) (hf : x.f = true) (hfit : fitsB l.n lim = true)
    (hc : chB (some (x.w.1 + l.c.toNat, x.w.2 ++ [j])) (wyO y) = false) : BA vs ls lim fr r (j + 1) outs := by
  refine ⟨h.len, fun z hz => ?_, ?_⟩
  · obtain ⟨h1, h2, h3⟩ := h.short z hz
    exact ⟨by omega, h2, h3⟩
  · obtain ⟨s, h1, h2, h3⟩ := h.found hx hf
    have hlk := hv.at_ lim hl hu ht
    rw [hfit] at hlk
    have ha := map_wy hx
    rw [show wyO x = some x.w by simp [wyO, hf]] at ha
    cases hy2 : wyO y with
    | none => rw [hy2] at hc; cases hc
    | some z =>
      rw [hy2] at hc
      have hb := map_wy hy
      rw [hy2] at hb
      refine .inr ⟨s, h1, h2, Gr.bf_keep h3 hlk ha hb ?_⟩
      simp only [chB, decide_eq_false_iff_not] at hc
      rcases Gr.Le.total (x.w.1 + l.c.toNat, x.w.2 ++ [j]) z with h | h
      · unfold Gr.Le at h ⊢
        rw [Gr.cmpW_neg]; omega
      · exact h
theorem BA.set {vs : List Int} {ls : List Ln} {lim : Nd} {fr : Int} {r j u t : Nat} {outs : List Wm} {l : Ln} {x y nx : Wm} (hv : Vg vs ls) (h : BA vs ls lim fr r j outs) (hl : ls[j]? = some l) (hu : vs[u]? = some l.f) (ht : vs[t]? = some l.t) (hx : outs[u]? = some x) (hy : outs[t]? = some y) (hf : x.f = true) (hfit : fitsB l.n lim = true)
    (hc : chB (some (x.w.1 + l.c.toNat, x.w.2 ++ [j])) (wyO y) = true) (hnx : nx.w = (x.w.1 + l.c.toNat, x.w.2 ++ [j])) (hnf : nx.f = true) (hnk : nx.kn = false) : BA vs ls lim fr r (j + 1) (outs.set t nx) := by
  have htl := (List.getElem?_eq_some_iff.1 ht).1
  refine ⟨by rw [List.length_set]; exact h.len, fun z hz => ?_, ?_⟩
  · rcases List.mem_or_eq_of_mem_set hz with hz | rfl
    · obtain ⟨h1, h2, h3⟩ := h.short z hz
      exact ⟨by omega, h2, h3⟩
    · obtain ⟨h1, h2, h3⟩ := h.short x (List.mem_of_getElem? hx)
      have hcm := (hv.ln j l hl).2.2.2
      rw [hnx]
      simp only [List.length_append, List.length_singleton, Nat.add_mul, Nat.one_mul]
      exact ⟨by omega, by omega, hnk⟩
  · obtain ⟨s, h1, h2, h3⟩ := h.found hx hf
    have hlk := hv.at_ lim hl hu ht
    rw [hfit] at hlk
    have ha := map_wy hx
    rw [show wyO x = some x.w by simp [wyO, hf]] at ha
    refine .inr ⟨s, h1, h2, ?_⟩
    rw [List.map_set, show wyO nx = some (x.w.1 + l.c.toNat, x.w.2 ++ [j]) by simp [wyO, hnf, hnx]]
    refine Gr.bf_set h3 hlk ha htl fun z hz => ?_
    rw [map_wy hy] at hz
    rw [Option.some.inj hz] at hc
    simp only [chB, decide_eq_true_eq] at hc
    exact Gr.Le.of_lt hc
end Go.Proofs.Ytgelchbbknckcaa
