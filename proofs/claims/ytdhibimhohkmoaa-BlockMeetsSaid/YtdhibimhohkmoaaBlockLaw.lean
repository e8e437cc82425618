/- Plain laws of the blocks: no program in sight. -/
import Derived.Test.YtdhibimhohkmoaaBlockRef
import Derived.Test.YtdhibimhohkmoaaBlockCuts
namespace Go.Proofs.Ytdhibimhohkmoaa

/-- The end of a block that begins at p: where a step stands, and none stands before. -/
theorem endFrom_spec (bs : List UInt8) (lo hi p : Nat) : ∀ f k, k + f = bs.length → p < k → stp bs lo hi p (endFrom bs lo hi p f k) = true ∧ ∀ j, k ≤ j → j < endFrom bs lo hi p f k → stp bs lo hi p j = false
  | 0, k, hk, _ => by
    rw [endFrom]
    exact ⟨by simp [stp]; omega, fun j h1 h2 => by omega⟩
  | f + 1, k, hk, hp => by
    rw [endFrom]
    by_cases hs : stp bs lo hi p k = true
    · rw [if_pos hs]
      exact ⟨hs, fun j h1 h2 => by omega⟩
    · rw [if_neg hs]
      have h := endFrom_spec bs lo hi p f (k + 1) (by omega) (by omega)
      refine ⟨h.1, fun j h1 h2 => ?_⟩
      by_cases hj : j = k
      · rw [hj]; simpa using hs
      · exact h.2 j (by omega) h2
theorem endAt_spec (bs : List UInt8) (lo hi p : Nat) (h : p < bs.length) : stp bs lo hi p (endAt bs lo hi p) = true ∧ ∀ j, p < j → j < endAt bs lo hi p → stp bs lo hi p j = false := by
  have h1 := endFrom_spec bs lo hi p (bs.length - (p + 1)) (p + 1) (by omega) (by omega)
  exact ⟨h1.1, fun j a b => h1.2 j (by omega) b⟩
theorem endAt_hi (bs : List UInt8) (lo hi p : Nat) (h : p < bs.length) (hh : 1 ≤ hi) : endAt bs lo hi p - p ≤ hi := by
  apply Classical.byContradiction
  intro hc
  have h1 := (endAt_spec bs lo hi p h).2 (p + hi) (by omega) (by omega)
  simp [stp] at h1
theorem endAt_lo (bs : List UInt8) (lo hi p : Nat) (h : p < bs.length) (hlh : lo ≤ hi) (he : endAt bs lo hi p < bs.length) : lo ≤ endAt bs lo hi p - p := by
  have h1 := (endAt_spec bs lo hi p h).1
  simp [stp] at h1
  omega

/-- The blocks from place p on. -/
def froms (bs : List UInt8) (lo hi p : Nat) : List (Nat × Nat) := blks bs lo hi (bs.length - p) p p
theorem froms_cons {bs : List UInt8} {lo hi p : Nat} (h : p < bs.length) : froms bs lo hi p = (p, endAt bs lo hi p) :: froms bs lo hi (endAt bs lo hi p) := blks_step bs lo hi p h
theorem froms_nil {bs : List UInt8} {lo hi p : Nat} (h : bs.length ≤ p) : froms bs lo hi p = [] := by
  unfold froms
  rw [show bs.length - p = 0 from by omega, blks]
theorem blocks_froms (bs : List UInt8) (lo hi : Nat) : blocks bs lo hi = froms bs lo hi 0 := rfl

/-- Blocks that follow each other from p to L. -/
def Chain (lo hi L : Nat) : Nat → List (Nat × Nat) → Prop
  | p, [] => p = L
  | p, r :: rest => r.1 = p ∧ p < r.2 ∧ r.2 ≤ L ∧ r.2 - p ≤ hi ∧ (r.2 < L → lo ≤ r.2 - p) ∧ Chain lo hi L r.2 rest
theorem froms_chain (bs : List UInt8) (lo hi : Nat) (hlh : lo ≤ hi) (hh : 1 ≤ hi) : ∀ n p, bs.length - p = n → p ≤ bs.length → Chain lo hi bs.length p (froms bs lo hi p) := by
  intro n
  induction n using Nat.strongRecOn with
  | _ n ih =>
    intro p hn hp
    by_cases h : p < bs.length
    · rw [froms_cons h]
      have hle := endAt_le bs lo hi p h
      exact ⟨rfl, hle.1, hle.2, endAt_hi bs lo hi p h hh, endAt_lo bs lo hi p h hlh, ih (bs.length - endAt bs lo hi p) (by omega) _ rfl hle.2⟩
    · rw [froms_nil (by omega)]
      show p = bs.length
      omega
theorem blocks_chain (bs : List UInt8) (lo hi : Nat) (hlh : lo ≤ hi) (hh : 1 ≤ hi) : Chain lo hi bs.length 0 (blocks bs lo hi) := by
  rw [blocks_froms]
  exact froms_chain bs lo hi hlh hh _ 0 rfl (by omega)

/-- The place reached behind k blocks. -/
def reach : Nat → List (Nat × Nat) → Nat → Nat
  | p, _, 0 => p
  | p, [], _ + 1 => p
  | _, r :: rest, k + 1 => reach r.2 rest k
theorem chain_at {lo hi L : Nat} : ∀ {rs : List (Nat × Nat)} {p k : Nat} {r : Nat × Nat}, Chain lo hi L p rs → rs[k]? = some r →
    r.1 = reach p rs k ∧ r.1 < r.2 ∧ r.2 ≤ L ∧ r.2 - r.1 ≤ hi ∧ (k + 1 < rs.length → r.2 < L ∧ lo ≤ r.2 - r.1) ∧ reach p rs (k + 1) = r.2
  | [], p, k, r, _, h => by simp at h
  | s :: rest, p, 0, r, hc, h => by
    obtain ⟨h1, h2, h3, h4, h5, h6⟩ := hc
    have hs : s = r := by simpa using h
    subst hs
    refine ⟨by simp [reach, h1], by omega, h3, by omega, fun hk => ?_, by simp [reach]⟩
    cases rest with
    | nil => simp at hk
    | cons t rest =>
      obtain ⟨g1, g2, g3, _⟩ := h6
      exact ⟨by omega, by have := h5 (by omega); omega⟩
  | s :: rest, p, k + 1, r, hc, h => by
    obtain ⟨h1, h2, h3, h4, h5, h6⟩ := hc
    have h' : rest[k]? = some r := by simpa using h
    have := chain_at h6 h'
    simp only [reach, List.length_cons]
    refine ⟨this.1, this.2.1, this.2.2.1, this.2.2.2.1, fun hk => this.2.2.2.2.1 (by omega), this.2.2.2.2.2⟩
theorem chain_last {lo hi L : Nat} : ∀ {rs : List (Nat × Nat)} {p : Nat}, Chain lo hi L p rs → reach p rs rs.length = L
  | [], p, h => h
  | s :: rest, p, h => by
    simp only [List.length_cons, reach]
    exact chain_last h.2.2.2.2.2
theorem chain_cuts {lo hi L : Nat} : ∀ {rs : List (Nat × Nat)} {p : Nat}, Chain lo hi L p rs → rs.filter (fun r => decide (r.2 < L)) = rs.dropLast
  | [], _, _ => rfl
  | [s], p, h => by
    have : s.2 = L := h.2.2.2.2.2
    simp [this]
  | s :: t :: rest, p, h => by
    have h6 := h.2.2.2.2.2
    have hs : s.2 < L := by have := h6.2.1; have := h6.2.2.1; omega
    rw [List.filter_cons_of_pos (by simpa using hs), chain_cuts h6, List.dropLast_cons_cons]
theorem cutsB_eq (bs : List UInt8) (lo hi : Nat) (hlh : lo ≤ hi) (hh : 1 ≤ hi) : cutsB bs lo hi = (blocks bs lo hi).dropLast.map fun r => (r.2 : Int) := by
  unfold cutsB
  rw [chain_cuts (blocks_chain bs lo hi hlh hh)]
theorem chain_nil {lo hi L p : Nat} {rs : List (Nat × Nat)} (h : Chain lo hi L p rs) : (rs = [] ↔ p = L) := by
  cases rs with
  | nil => exact ⟨fun _ => h, fun _ => rfl⟩
  | cons r rest => exact ⟨fun e => (by cases e), fun e => (by have := h.2.1; have := h.2.2.1; omega)⟩
theorem chain_length {lo hi L : Nat} : ∀ {rs : List (Nat × Nat)} {p : Nat}, Chain lo hi L p rs → rs.length + p ≤ L
  | [], p, h => by have : p = L := h; simp; omega
  | s :: rest, p, h => by
    have := chain_length h.2.2.2.2.2
    have := h.2.1
    simp only [List.length_cons]
    omega
end Go.Proofs.Ytdhibimhohkmoaa
