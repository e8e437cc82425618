/- Plain law: the blocks of a beginning. -/
import Derived.Test.YtdhibimhohkmoaaBlockLaw
namespace Go.Proofs.Ytdhibimhohkmoaa

theorem sumAt_take (bs : List UInt8) (k j : Nat) (h0 : 0 < j) (hj : j ≤ k) : sumAt (bs.take k) j = sumAt bs j := by
  have h : ∀ i, i < k → (bs.take k).getD i 0 = bs.getD i 0 := fun i hi => by
    rw [List.getD_eq_getElem?_getD, List.getD_eq_getElem?_getD, List.getElem?_take, if_pos hi]
  unfold sumAt
  rw [h _ (by omega), h _ (by omega), h _ (by omega), h _ (by omega)]
theorem endAt_unique (bs : List UInt8) (lo hi p e : Nat) (hp : p < bs.length) (h1 : p < e) (hs : stp bs lo hi p e = true) (hn : ∀ j, p < j → j < e → stp bs lo hi p j = false) : endAt bs lo hi p = e := by
  have h := endAt_spec bs lo hi p hp
  have hl := endAt_le bs lo hi p hp
  apply Classical.byContradiction
  intro hne
  by_cases hlt : endAt bs lo hi p < e
  · have := hn _ hl.1 hlt
    rw [h.1] at this
    cases this
  · have := h.2 e h1 (by omega)
    rw [hs] at this
    cases this
theorem stp_take (bs : List UInt8) (lo hi p k j : Nat) (hp : p < j) (hj : j < k) (hk : k ≤ bs.length) : stp (bs.take k) lo hi p j = stp bs lo hi p j := by
  have e1 : decide (j = (bs.take k).length) = false := by simp; omega
  have e2 : decide (j = bs.length) = false := by simp; omega
  unfold stp
  rw [sumAt_take bs k j (by omega) (by omega), e1, e2]
theorem endAt_take (bs : List UInt8) (lo hi p k : Nat) (hp : p < k) (hk : k ≤ bs.length) :
    (endAt bs lo hi p < k → endAt (bs.take k) lo hi p = endAt bs lo hi p) ∧ (k ≤ endAt bs lo hi p → endAt (bs.take k) lo hi p = k) := by
  have hl : (bs.take k).length = k := by simp; omega
  have h := endAt_spec bs lo hi p (by omega)
  have hle := endAt_le bs lo hi p (by omega)
  refine ⟨fun he => ?_, fun he => ?_⟩
  · refine endAt_unique _ _ _ _ _ (by omega) hle.1 ?_ fun j a b => ?_
    · rw [stp_take bs lo hi p k _ hle.1 he hk]; exact h.1
    · rw [stp_take bs lo hi p k _ a (by omega) hk]; exact h.2 j a b
  · refine endAt_unique _ _ _ _ _ (by omega) hp ?_ fun j a b => ?_
    · simp [stp, hl]
    · rw [stp_take bs lo hi p k _ a b hk]; exact h.2 j a (by omega)

/-- The first list is a beginning of the second one, but for its last part's end. -/
def Beg : List (Nat × Nat) → List (Nat × Nat) → Prop
  | [], _ => True
  | _ :: _, [] => False
  | x :: xs, y :: ys => x.1 = y.1 ∧ (xs ≠ [] → x = y) ∧ Beg xs ys
theorem beg_len : ∀ {s r : List (Nat × Nat)}, Beg s r → s.length ≤ r.length
  | [], _, _ => Nat.zero_le _
  | _ :: _, [], h => h.elim
  | x :: xs, y :: ys, h => by
    have := beg_len h.2.2
    simp only [List.length_cons]
    omega
theorem beg_at : ∀ {s r : List (Nat × Nat)} {i : Nat} {x y : Nat × Nat}, Beg s r → s[i]? = some x → r[i]? = some y → x.1 = y.1 ∧ (i + 1 < s.length → x = y)
  | [], _, _, _, _, _, h, _ => by simp at h
  | _ :: _, [], _, _, _, h, _, _ => h.elim
  | u :: xs, v :: ys, 0, x, y, h, hx, hy => by
    have hx : u = x := by simpa using hx
    have hy : v = y := by simpa using hy
    subst hx hy
    exact ⟨h.1, fun hl => h.2.1 (by rintro rfl; simp at hl)⟩
  | u :: xs, v :: ys, i + 1, x, y, h, hx, hy => by
    have := beg_at (i := i) (x := x) (y := y) h.2.2 (by simpa using hx) (by simpa using hy)
    exact ⟨this.1, fun hl => this.2 (by simp only [List.length_cons] at hl; omega)⟩
theorem froms_beg (bs : List UInt8) (lo hi k : Nat) (hk : k ≤ bs.length) : ∀ n p, k - p = n → Beg (froms (bs.take k) lo hi p) (froms bs lo hi p) := by
  have hl : (bs.take k).length = k := by simp; omega
  intro n
  induction n using Nat.strongRecOn with
  | _ n ih =>
    intro p hn
    by_cases hp : p < k
    · rw [froms_cons (bs := bs.take k) (by omega), froms_cons (bs := bs) (by omega)]
      have h := endAt_take bs lo hi p k hp hk
      have hle := endAt_le bs lo hi p (by omega)
      by_cases he : endAt bs lo hi p < k
      · rw [h.1 he]
        exact ⟨rfl, fun _ => rfl, ih _ (by omega) _ rfl⟩
      · rw [h.2 (by omega), froms_nil (by omega)]
        exact ⟨rfl, fun h => absurd rfl h, trivial⟩
    · rw [froms_nil (by omega)]
      trivial
theorem blocks_beg (bs : List UInt8) (lo hi k : Nat) (hk : k ≤ bs.length) : Beg (blocks (bs.take k) lo hi) (blocks bs lo hi) := froms_beg bs lo hi k hk _ 0 rfl
end Go.Proofs.Ytdhibimhohkmoaa
