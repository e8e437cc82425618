/- Package graph: ways, what is plain. -/
import Derived.Test.YtgelchbbknckcaaG13
import Derived.Test.YtgelchbbknckcaaGT
namespace Go.Proofs.Ytgelchbbknckcaa
open Go.RowKit Go.Sort

/-- The way, where one is found. -/
def wyO (x : Wm) : Option Gr.Wy := if x.f = true then some x.w else none
def wm0 : Wm := ⟨none, 0, 0, (0, []), false, false⟩
def lkN (vs : List Int) (lim : Nd) (l : Ln) : Gr.Lk := ((idxI vs l.f).toNat, (idxI vs l.t).toNat, l.c.toNat, fitsB l.n lim)
def lksN (vs : List Int) (lim : Nd) (ls : List Ln) : List Gr.Lk := ls.map (lkN vs lim)
def Wt (W : World) (x : Wm) : Prop := TRd W 3 1 x.A x.n ((castL x.w.2).map intV) ∧ x.n ≤ x.c
theorem Wt.rd {W : World} {x : Wm} (h : Wt W x) : Rd W 1 x.A x.n ((castL x.w.2).map intV) := h.1.rd
theorem Wt.ok {W : World} {x : Wm} (h : Wt W x) : Wok W x := h.1.rd
theorem Wt.below {W W' : World} {x : Wm} (h : Wt W x) (hb : Below W.heap.size W W') : Wt W' x := ⟨TRd.below h.1 hb, h.2⟩
theorem Wt.kept {W W' : World} {t g : Nat} {x : Wm} {cs : Array Value} (h : Wt W x) (hg : Blk W g t cs) (hne : t ≠ 3) (hk : KeptIn (fun k => k ≠ g) W W') : Wt W' x := ⟨TRd.kept h.1 hg hne hk, h.2⟩
theorem Wt.nil (W : World) : Wt W wm0 := ⟨⟨⟨rfl, Nat.zero_le _, fun h => absurd h (Nat.not_lt_zero _)⟩, fun h => absurd h (Nat.not_lt_zero _)⟩, Nat.le_refl _⟩

/-- The open ones of the first k, with their places. -/
def prs (outs : List Wm) : Nat → List (Nat × Wm)
  | 0 => []
  | k + 1 => prs outs k ++ (match outs[k]? with | some x => if (x.f && !x.kn) = true then [(k, x)] else [] | none => [])
theorem mem_prs {outs : List Wm} {i : Nat} {x : Wm} : ∀ {k : Nat}, (i, x) ∈ prs outs k ↔ i < k ∧ outs[i]? = some x ∧ x.f = true ∧ x.kn = false
  | 0 => by simp [prs]
  | k + 1 => by
    rw [prs, List.mem_append, mem_prs (k := k)]
    constructor
    · rintro (h | h)
      · exact ⟨by omega, h.2⟩
      · split at h
        · next y hy =>
          split at h
          · next hc =>
            simp only [List.mem_singleton, Prod.mk.injEq] at h
            obtain ⟨rfl, rfl⟩ := h
            rw [Bool.and_eq_true, Bool.not_eq_true'] at hc
            exact ⟨by omega, hy, hc⟩
          · cases h
        · cases h
    · rintro ⟨h1, h2, h3, h4⟩
      by_cases e : i = k
      · subst e
        right
        rw [h2]
        simp [h3, h4]
      · exact .inl ⟨by omega, h2, h3, h4⟩
theorem prs_yes {outs : List Wm} {k : Nat} {x : Wm} (h : outs[k]? = some x) (h2 : (x.f && !x.kn) = true) : prs outs (k + 1) = prs outs k ++ [(k, x)] := by rw [prs, h]; simp only [h2, if_true]
theorem prs_no {outs : List Wm} {k : Nat} {x : Wm} (h : outs[k]? = some x) (h2 : (x.f && !x.kn) = false) : prs outs (k + 1) = prs outs k := by rw [prs, h]; simp [h2]
theorem prs_len (outs : List Wm) : ∀ k, (prs outs k).length ≤ k
  | 0 => Nat.le_refl _
  | k + 1 => by
    have := prs_len outs k
    rw [prs, List.length_append]
    split
    · split <;> simp <;> omega
    · simp; omega

theorem idx_of {vs : List Int} {x : Int} {k : Nat} (hs : ∀ (i j : Nat) (a b : Int), i < j → vs[i]? = some a → vs[j]? = some b → a < b) (h : vs[k]? = some x) : idxI vs x = (k : Int) :=
  idxI_hit h fun j hj e => by have := hs j k x x hj e h; omega
theorem idx_lt {vs : List Int} {x : Int} (h : x ∈ vs) : ∃ k : Nat, idxI vs x = (k : Int) ∧ k < vs.length ∧ vs[k]? = some x := by
  unfold idxI
  cases e : vs.findIdx? (fun a => a == x) with
  | none =>
    rw [List.findIdx?_eq_none_iff] at e
    have := e x h
    simp at this
  | some i =>
    rw [List.findIdx?_eq_some_iff_getElem] at e
    obtain ⟨hl, he, _⟩ := e
    exact ⟨i, rfl, hl, by rw [List.getElem?_eq_getElem hl]; simpa using he⟩
theorem Gr.Walk.cost {ls : List Gr.Lk} {K : Nat} (h : ∀ (k u t d : Nat) (b : Bool), ls[k]? = some (u, t, d, b) → d ≤ K) {s v : Nat} {w : Gr.Wy} (hw : Gr.Walk ls s v w) : w.1 ≤ w.2.length * K := by
  induction hw with
  | nil => simp
  | @snoc u t k d w hw hk ih =>
    have := h k u t d true hk
    simp only [List.length_append, List.length_singleton, Nat.add_mul, Nat.one_mul]
    omega
theorem count_all {l : List Bool} (h : l.count true = l.length) (o : Nat) : l[o]? ≠ some false := fun e => by
  rw [List.count_eq_length] at h
  have := h _ (List.mem_of_getElem? e)
  cases this
/-- What a valid graph is. -/
structure Vg (vs : List Int) (ls : List Ln) : Prop where
  n : vs.length ≤ 16
  m : ls.length ≤ 64
  inc : ∀ (i j : Nat) (a b : Int), i < j → vs[i]? = some a → vs[j]? = some b → a < b
  ln : ∀ (k : Nat) (l : Ln), ls[k]? = some l → l.f ∈ vs ∧ l.t ∈ vs ∧ l.f ≠ l.t ∧ 0 ≤ l.c ∧ l.c ≤ 1000000
theorem vg {vs : List Int} {ls : List Ln} (h : validB vs ls = true) : Vg vs ls := by
  unfold validB at h
  rw [Bool.and_eq_true, Bool.and_eq_true, decide_eq_true_eq, List.all_eq_true] at h
  obtain ⟨⟨⟨h1, h2⟩, h3⟩, h4⟩ := h
  refine ⟨h1, h2, (incF_lt _ _ h3).2, fun k l hk => ?_⟩
  have := h4 l (List.mem_of_getElem? hk)
  unfold validL at this
  rw [Bool.and_eq_true, decide_eq_true_eq] at this
  exact this.1
theorem Vg.lk {vs : List Int} {ls : List Ln} (h : Vg vs ls) {lim : Nd} {k u t d : Nat} {b : Bool} (hk : (lksN vs lim ls)[k]? = some (u, t, d, b)) : ∃ l, ls[k]? = some l ∧ vs[u]? = some l.f ∧ vs[t]? = some l.t ∧ l.c = (d : Int) ∧ d ≤ 1000000 ∧ b = fitsB l.n lim ∧ u < vs.length ∧ t < vs.length := by
  unfold lksN at hk
  rw [List.getElem?_map] at hk
  cases hl : ls[k]? with
  | none => rw [hl] at hk; cases hk
  | some l =>
    rw [hl] at hk
    obtain ⟨h1, h2, _, h3, h4⟩ := h.ln k l hl
    obtain ⟨a, ha, hal, hav⟩ := idx_lt h1
    obtain ⟨c, hc, hcl, hcv⟩ := idx_lt h2
    simp only [Option.map_some, Option.some.injEq, lkN, Prod.mk.injEq, ha, hc, Int.toNat_natCast] at hk
    obtain ⟨rfl, rfl, rfl, rfl⟩ := hk
    exact ⟨l, rfl, hav, hcv, by omega, by omega, rfl, hal, hcl⟩
theorem Vg.at_ {vs : List Int} {ls : List Ln} (h : Vg vs ls) (lim : Nd) {k u t : Nat} {l : Ln} (hk : ls[k]? = some l) (hu : vs[u]? = some l.f) (ht : vs[t]? = some l.t) : (lksN vs lim ls)[k]? = some (u, t, l.c.toNat, fitsB l.n lim) := by
  unfold lksN
  rw [List.getElem?_map, hk]
  simp only [Option.map_some, lkN, idx_of h.inc hu, idx_of h.inc ht, Int.toNat_natCast]
theorem set_map_kn {outs : List Wm} {i : Nat} {x : Wm} (b : Bool) (h : outs[i]? = some x) : (outs.set i { x with kn := b }).map wyO = outs.map wyO := by
  apply List.ext_getElem?
  intro k
  rw [List.getElem?_map, List.getElem?_map]
  by_cases e : i = k
  · subst e
    rw [List.getElem?_set_self (List.getElem?_eq_some_iff.1 h).1, h]
    rfl
  · rw [List.getElem?_set_ne e]
end Go.Proofs.Ytgelchbbknckcaa
