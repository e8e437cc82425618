/- Plain law: the blocks of a run of one byte. -/
import Derived.Test.YtdhibimhohkmoaaBlockLaw2
namespace Go.Proofs.Ytdhibimhohkmoaa

theorem sumAt_run (n : Nat) (x : UInt8) (i : Nat) (h4 : 4 ≤ i) (hi : i ≤ n) : sumAt (List.replicate n x) i = 4 * x.toNat := by
  have h : ∀ j, j < n → (List.replicate n x).getD j 0 = x := fun j hj => by
    rw [List.getD_eq_getElem?_getD, List.getElem?_replicate, if_pos hj]; rfl
  unfold sumAt
  rw [h _ (by omega), h _ (by omega), h _ (by omega), h _ (by omega)]
  omega
/-- The length of all blocks of a run but the last one. -/
def runSize (x : UInt8) (lo hi : Nat) : Nat := if x.toNat % 4 = 0 then lo else hi
theorem runSize_in {x : UInt8} {lo hi : Nat} (h4 : 4 ≤ lo) (hlh : lo ≤ hi) : lo ≤ runSize x lo hi ∧ runSize x lo hi ≤ hi := by unfold runSize; split <;> omega
theorem endAt_run (n : Nat) (x : UInt8) (lo hi p : Nat) (h4 : 4 ≤ lo) (hlh : lo ≤ hi) (hp : p < n) : endAt (List.replicate n x) lo hi p = min (p + runSize x lo hi) n := by
  have hs := runSize_in (x := x) h4 hlh
  have hl : (List.replicate n x).length = n := by simp
  refine endAt_unique _ _ _ _ _ (by omega) (by omega) ?_ fun j a b => ?_
  · by_cases hn : p + runSize x lo hi < n
    · rw [Nat.min_eq_left (by omega)]
      unfold stp
      rw [sumAt_run n x _ (by omega) (by omega)]
      unfold runSize at *
      split
      · rename_i h
        have e : decide (4 * x.toNat % 16 = 0) = true := by simp; omega
        have e2 : decide (lo ≤ p + lo - p) = true := by simp
        rw [e, e2]; simp
      · have e2 : decide (p + hi - p = hi) = true := by simp
        rw [e2]; simp
    · rw [Nat.min_eq_right (by omega)]
      simp [stp]
  · have e1 : decide (j = (List.replicate n x).length) = false := by rw [hl]; simp; omega
    have e2 : decide (j - p = hi) = false := by simp; omega
    unfold stp
    rw [e1, e2, Bool.false_or, Bool.false_or]
    by_cases hlo : lo ≤ j - p
    · rw [sumAt_run n x _ (by omega) (by omega)]
      unfold runSize at *
      split at b
      · omega
      · rename_i h
        have e : decide (4 * x.toNat % 16 = 0) = false := by simp; omega
        rw [e]; simp
    · have e : decide (lo ≤ j - p) = false := by simp; omega
      rw [e]; rfl
theorem froms_run (n : Nat) (x : UInt8) (lo hi : Nat) (h4 : 4 ≤ lo) (hlh : lo ≤ hi) : ∀ k p, p ≤ n →
    (froms (List.replicate n x) lo hi p)[k]? = if p + k * runSize x lo hi < n then some (p + k * runSize x lo hi, min (p + k * runSize x lo hi + runSize x lo hi) n) else none := by
  have hs := runSize_in (x := x) h4 hlh
  have hl : (List.replicate n x).length = n := by simp
  intro k
  induction k with
  | zero =>
    intro p hp
    by_cases h : p < n
    · rw [froms_cons (by omega), endAt_run n x lo hi p h4 hlh h]
      simp [h]
    · rw [froms_nil (by omega)]
      simp [h]
  | succ k ih =>
    intro p hp
    by_cases h : p < n
    · rw [froms_cons (by omega), endAt_run n x lo hi p h4 hlh h, List.getElem?_cons_succ]
      by_cases h2 : p + runSize x lo hi < n
      · rw [Nat.min_eq_left (by omega), ih _ (by omega)]
        rw [show p + (k + 1) * runSize x lo hi = p + runSize x lo hi + k * runSize x lo hi from by rw [Nat.add_mul]; omega]
      · rw [Nat.min_eq_right (by omega), froms_nil (by omega), if_neg (by rw [Nat.add_mul]; omega)]
        rfl
    · rw [froms_nil (by omega), if_neg (by omega)]
      rfl
theorem blocks_run (n : Nat) (x : UInt8) (lo hi k : Nat) (h4 : 4 ≤ lo) (hlh : lo ≤ hi) :
    (blocks (List.replicate n x) lo hi)[k]? = if k * runSize x lo hi < n then some (k * runSize x lo hi, min (k * runSize x lo hi + runSize x lo hi) n) else none := by
  have h := froms_run n x lo hi h4 hlh k 0 (by omega)
  rw [Nat.zero_add] at h
  exact h
theorem blocks_run_len (n : Nat) (x : UInt8) (lo hi : Nat) (h4 : 4 ≤ lo) (hlh : lo ≤ hi) :
    (blocks (List.replicate n x) lo hi).length = (n + runSize x lo hi - 1) / runSize x lo hi := by
  have hs := runSize_in (x := x) h4 hlh
  have h := blocks_run n x lo hi
  generalize blocks (List.replicate n x) lo hi = rs at *
  have h1 := h rs.length h4 hlh
  rw [List.getElem?_eq_none (Nat.le_refl _)] at h1
  have hge : n ≤ rs.length * runSize x lo hi := by
    apply Classical.byContradiction
    intro hc
    rw [if_pos (by omega)] at h1
    cases h1
  symm
  refine Nat.div_eq_of_lt_le ?_ ?_
  · by_cases h0 : rs.length = 0
    · rw [h0, Nat.zero_mul]; omega
    · have h2 := h (rs.length - 1) h4 hlh
      rw [List.getElem?_eq_getElem (by omega)] at h2
      have hlt : (rs.length - 1) * runSize x lo hi < n := by
        apply Classical.byContradiction
        intro hc
        rw [if_neg (by omega)] at h2
        cases h2
      have : rs.length * runSize x lo hi = (rs.length - 1) * runSize x lo hi + runSize x lo hi := by
        rw [← Nat.succ_mul]; congr 1; omega
      omega
  · rw [Nat.add_mul]; omega
end Go.Proofs.Ytdhibimhohkmoaa
