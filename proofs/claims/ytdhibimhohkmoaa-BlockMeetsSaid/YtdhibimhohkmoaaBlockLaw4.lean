/- Plain law: from each cut on, the rest has the remaining blocks. -/
import Derived.Test.YtdhibimhohkmoaaBlockLaw2
namespace Go.Proofs.Ytdhibimhohkmoaa

theorem sumAt_drop (bs : List UInt8) (p j : Nat) (h4 : 4 ≤ j) : sumAt (bs.drop p) j = sumAt bs (p + j) := by
  have h : ∀ i, (bs.drop p).getD i 0 = bs.getD (p + i) 0 := fun i => by
    rw [List.getD_eq_getElem?_getD, List.getD_eq_getElem?_getD, List.getElem?_drop]
  unfold sumAt
  rw [h, h, h, h, show p + (j - 4) = p + j - 4 from by omega, show p + (j - 3) = p + j - 3 from by omega, show p + (j - 2) = p + j - 2 from by omega, show p + (j - 1) = p + j - 1 from by omega]
theorem stp_drop (bs : List UInt8) (lo hi p q j : Nat) (h4 : 4 ≤ lo) (hp : p ≤ bs.length) : stp (bs.drop p) lo hi q j = stp bs lo hi (p + q) (p + j) := by
  have e1 : decide (j = (bs.drop p).length) = decide (p + j = bs.length) := by
    rw [List.length_drop]; apply decide_eq_decide.2; omega
  have e2 : p + j - (p + q) = j - q := by omega
  unfold stp
  rw [e1, e2]
  by_cases hl : lo ≤ j - q
  · rw [sumAt_drop bs p j (by omega)]
  · have : decide (lo ≤ j - q) = false := by simp; omega
    rw [this]
    simp
theorem endAt_drop (bs : List UInt8) (lo hi p q : Nat) (h4 : 4 ≤ lo) (h : p + q < bs.length) : endAt bs lo hi (p + q) = p + endAt (bs.drop p) lo hi q := by
  have hl : (bs.drop p).length = bs.length - p := by simp
  have hs := endAt_spec (bs.drop p) lo hi q (by omega)
  have hle := endAt_le (bs.drop p) lo hi q (by omega)
  refine endAt_unique _ _ _ _ _ h (by omega) ?_ fun j a b => ?_
  · rw [← stp_drop bs lo hi p q _ h4 (by omega)]; exact hs.1
  · have := hs.2 (j - p) (by omega) (by omega)
    rw [stp_drop bs lo hi p q _ h4 (by omega), show p + (j - p) = j from by omega] at this
    exact this
theorem froms_shift (bs : List UInt8) (lo hi p : Nat) (h4 : 4 ≤ lo) (hp : p ≤ bs.length) : ∀ n q, bs.length - (p + q) = n →
    froms bs lo hi (p + q) = (froms (bs.drop p) lo hi q).map fun r => (p + r.1, p + r.2) := by
  have hl : (bs.drop p).length = bs.length - p := by simp
  intro n
  induction n using Nat.strongRecOn with
  | _ n ih =>
    intro q hn
    by_cases h : p + q < bs.length
    · have hle := endAt_le bs lo hi (p + q) h
      rw [froms_cons h, froms_cons (bs := bs.drop p) (by omega), List.map_cons]
      have he := endAt_drop bs lo hi p q h4 h
      rw [he] at hle ⊢
      rw [ih _ (by omega) (endAt (bs.drop p) lo hi q) rfl]
    · rw [froms_nil (by omega), froms_nil (by omega)]
      rfl
theorem froms_at (bs : List UInt8) (lo hi : Nat) : ∀ i p r, (froms bs lo hi p)[i]? = some r → (froms bs lo hi p).drop i = froms bs lo hi r.1 := by
  intro i
  induction i with
  | zero =>
    intro p r h
    by_cases hp : p < bs.length
    · rw [froms_cons hp] at h
      have : (p, endAt bs lo hi p) = r := by simpa using h
      subst this
      rw [List.drop_zero]
    · rw [froms_nil (by omega)] at h
      simp at h
  | succ i ih =>
    intro p r h
    by_cases hp : p < bs.length
    · rw [froms_cons hp] at h ⊢
      rw [List.drop_succ_cons]
      exact ih _ _ (by simpa using h)
    · rw [froms_nil (by omega)] at h
      simp at h
/-- The rest's blocks, moved, are the remaining ones. -/
theorem blocks_rest (bs : List UInt8) (lo hi i : Nat) (r : Nat × Nat) (h4 : 4 ≤ lo) (h : (blocks bs lo hi)[i]? = some r) (hr : r.1 ≤ bs.length) :
    (blocks (bs.drop r.1) lo hi).map (fun s => (r.1 + s.1, r.1 + s.2)) = (blocks bs lo hi).drop i := by
  rw [blocks_froms, blocks_froms, froms_at bs lo hi i 0 r (by rw [← blocks_froms]; exact h), ← froms_shift bs lo hi r.1 h4 hr _ 0 rfl, Nat.add_zero]
theorem natPair_move (l : List (Nat × Nat)) (p : Nat) : ((l.map natPair).map fun r => (r.1 + (p : Int), r.2 + (p : Int))) = (l.map fun s => (p + s.1, p + s.2)).map natPair := by
  rw [List.map_map, List.map_map]
  apply List.map_congr_left
  intro r _
  simp [natPair]
  omega
theorem froms_in4 (bs : List UInt8) (lo hi : Nat) : ∀ n p, bs.length - p = n → p ≤ bs.length → ∀ r ∈ froms bs lo hi p, r.1 ≤ r.2 ∧ r.2 ≤ bs.length ∧ r.1 < bs.length := by
  intro n
  induction n using Nat.strongRecOn with
  | _ n ih =>
    intro p hn hp r hr
    by_cases h : p < bs.length
    · rw [froms_cons h] at hr
      have he := endAt_le bs lo hi p h
      rcases List.mem_cons.1 hr with rfl | hr
      · exact ⟨by dsimp only; omega, by dsimp only; omega, h⟩
      · exact ih _ (by omega) _ rfl (by omega) r hr
    · rw [froms_nil (by omega)] at hr
      cases hr
theorem blocks_in4 (bs : List UInt8) (lo hi : Nat) : ∀ r ∈ blocks bs lo hi, r.1 ≤ r.2 ∧ r.2 ≤ bs.length ∧ r.1 < bs.length := froms_in4 bs lo hi _ 0 rfl (by omega)
end Go.Proofs.Ytdhibimhohkmoaa
