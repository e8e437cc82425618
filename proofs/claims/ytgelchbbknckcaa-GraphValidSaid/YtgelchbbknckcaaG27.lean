/- Slices that are changed in place, cell by cell: the made graph as such. -/
import Derived.Test.YtgelchbbknckcaaG19
namespace Go.Proofs.Ytgelchbbknckcaa
open Go.RowKit Go.Sort

/-- A slice whose block is new since a place in memory. -/
def ORd (w : World) (base : Nat) (e : TypeId) (sz : Nat) (A : Option Addr) (n : Nat) (xs : List Value) : Prop := TRd w e sz A n xs ∧ (0 < n → ∀ b off, A = some ⟨b, off, none⟩ → base ≤ b)
section
variable {w w' : World} {base : Nat} {e t : TypeId} {sz n g : Nat} {A : Option Addr} {xs : List Value}
theorem ORd.below (h : ORd w base e sz A n xs) (hb : Below w.heap.size w w') : ORd w' base e sz A n xs := ⟨TRd.below h.1 hb, h.2⟩
theorem AppZ.ord {c : Nat} (h : AppZ w base e sz (.slice A n c) n xs) : ORd w base e sz A n xs := ⟨AppZ.trd h, fun hn b off hA => by
  subst hA
  rcases h with ⟨rfl, _⟩ | ⟨_, ⟨hv, _⟩ | ⟨g', cap, cur, hv, hb, hgg, _⟩⟩
  · omega
  · cases hv
  · cases hv; exact hb⟩
theorem ORd.kept {cs : Array Value} (h : ORd w base e sz A n xs) (hg : Blk w g t cs) (hne : t ≠ e) (hk : KeptIn (fun k => k ≠ g) w w') : ORd w' base e sz A n xs := ⟨TRd.kept h.1 hg hne hk, h.2⟩
/-- A cell of it is written. -/
theorem ORd.set {b off i : Nat} {u : Value} (h : ORd w base e sz (some ⟨b, off, none⟩) n xs) (hn : 0 < n) (hi : i < xs.length) : ORd (w.setCell ⟨b, off + i, none⟩ u) base e sz (some ⟨b, off, none⟩) n (xs.set i u) := by
  obtain ⟨⟨⟨h1, h2, h3⟩, h4⟩, h5⟩ := h
  obtain ⟨cur, hc⟩ := h4 hn b off rfl
  obtain ⟨b', off', e', hcell⟩ := h3 hn
  cases e'
  have hc' : Blk (w.setCell ⟨b, off + i, none⟩ u) b e (cur.setIfInBounds (off + i) u) := heap_setCell_same w b (off + i) cur e u hc
  refine ⟨⟨⟨by rw [List.length_set]; exact h1, h2, fun _ => ⟨b, off, rfl, fun j v hv => ?_⟩⟩, fun _ b2 off2 e2 => by cases e2; exact ⟨_, hc'⟩⟩, h5⟩
  rw [hc'.cell, Array.getElem?_setIfInBounds]
  rw [List.getElem?_set] at hv
  by_cases hij : i = j
  · subst hij
    have hx := hcell i xs[i] (List.getElem?_eq_getElem hi)
    rw [hc.cell] at hx
    have hlt := (Array.getElem?_eq_some_iff.1 hx).1
    rw [if_pos rfl, if_pos hi] at hv
    rw [if_pos rfl, if_pos hlt]
    exact hv
  · rw [if_neg hij] at hv
    rw [if_neg (by omega)]
    have := hcell j v hv
    rwa [hc.cell] at this
theorem ORd.frozen {b off i : Nat} (h : ORd w base e sz (some ⟨b, off, none⟩) n xs) (hn : 0 < n) : w.frozen? ⟨b, off + i, none⟩ = false := by
  obtain ⟨cur, hc⟩ := h.1.2 hn b off rfl
  exact hc.frozen _
end
theorem ln_set {l l' : Ln} {j : Nat} {u : Value} (hj : j < 8) (hy : (lnV l).set j u = lnV l') : ∀ {ls : List Ln} {i : Nat}, ls[i]? = some l → (ls.flatMap lnV).set (i * 8 + j) u = (ls.set i l').flatMap lnV
  | [], i, h => by simp at h
  | a :: r, 0, h => by
    simp at h; subst h
    rw [List.set_cons_zero, List.flatMap_cons, List.flatMap_cons, Nat.zero_mul, Nat.zero_add, List.set_append_left _ _ (by rw [lnV_len]; omega), hy]
  | a :: r, i + 1, h => by
    simp at h
    rw [List.set_cons_succ, List.flatMap_cons, List.flatMap_cons, List.set_append_right _ _ (by rw [lnV_len]; omega), lnV_len, show (i + 1) * 8 + j - 8 = i * 8 + j by omega, ln_set hj hy h]
theorem flat_ln (ls : List Ln) : (ls.flatMap lnV).length = ls.length * 8 := flat_length lnV_len ls
theorem Made_O (A : Option Addr) (n c : Nat) (B : Option Addr) (m d : Nat) (xs : List UInt8) (ys : List R6) (w : World) (hr : Rd w 1 A n (xs.map byteV)) (hl : Rd w 6 B m (ys.flatMap r6V)) :
    Calls Try.prog 12 #[.agg (grV A n c B m d).toArray] w fun e w' => (∃ A' c' B' d', e = .returned (.agg (grV A' (min n 7) c' B' (madeM xs ys) d').toArray) ∧ ORd w' w.heap.size 3 1 A' (min n 7) ((verN xs (min n 7)).map intV) ∧ ORd w' w.heap.size 53 8 B' (madeM xs ys) ((madeL xs ys).flatMap lnV)) ∧ Below w.heap.size w w' := by
  refine (Made_any A n c B m d xs ys w hr hl).mono ?_
  rintro e w' ⟨⟨A', c', B', d', rfl, h1, h2⟩, hb⟩
  exact ⟨⟨A', c', B', d', rfl, h1.ord, h2.ord⟩, hb⟩
/-- Which cell of a link is changed. -/
def offs : List Nat := [0, 1, 2, 3, 4, 7]
def putL (l : Ln) (e : Nat) (y : Int) : Ln := match e with
  | 0 => { l with f := y }
  | 1 => { l with t := y }
  | 2 => { l with c := y }
  | 3 => { l with n := { l.n with s := y } }
  | 4 => { l with n := { l.n with u := y } }
  | _ => { l with n := { l.n with o := y } }
theorem putL_V (l : Ln) (y : Int) : ∀ {e o : Nat}, offs[e]? = some o → o < 8 ∧ (lnV l).set o (.int .i64 y) = lnV (putL l e y)
  | 0, o, h => by cases h; exact ⟨by decide, rfl⟩
  | 1, o, h => by cases h; exact ⟨by decide, rfl⟩
  | 2, o, h => by cases h; exact ⟨by decide, rfl⟩
  | 3, o, h => by cases h; exact ⟨by decide, rfl⟩
  | 4, o, h => by cases h; exact ⟨by decide, rfl⟩
  | 5, o, h => by cases h; exact ⟨by decide, rfl⟩
  | e + 6, o, h => by simp [offs] at h
end Go.Proofs.Ytgelchbbknckcaa
