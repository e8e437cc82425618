/- Plain law: the pairs of a match, one after the other. -/
import Derived.Test.YtdhibimhohkmoaaBlockMap
namespace Go.Proofs.Ytdhibimhohkmoaa

def hitF (ka : List (List UInt8)) (p : List UInt8 × Nat) : Option (Nat × Nat) := if p.1 ∈ ka then some (ka.idxOf p.1, p.2) else none
theorem mres_hitF (ka kb : List (List UInt8)) : mres ka kb = kb.zipIdx.filterMap (hitF ka) := rfl
/-- How many pairs the first k keys have. -/
def tAt (ka kb : List (List UInt8)) (k : Nat) : Nat := (mres ka (kb.take k)).length
theorem tAt_zero (ka kb : List (List UInt8)) : tAt ka kb 0 = 0 := by simp [tAt, mres]
theorem tAt_last (ka kb : List (List UInt8)) : tAt ka kb kb.length = (mres ka kb).length := by simp [tAt]
theorem mres_split (ka kb : List (List UInt8)) (k : Nat) (hk : k ≤ kb.length) : mres ka kb = mres ka (kb.take k) ++ ((kb.drop k).zipIdx k).filterMap (hitF ka) := by
  conv => lhs; rw [← List.take_append_drop k kb]
  rw [mres_hitF, mres_hitF, List.zipIdx_append, List.filterMap_append, List.length_take, Nat.min_eq_left hk, Nat.zero_add]
theorem mres_next (ka kb : List (List UInt8)) (k : Nat) (s : List UInt8) (h : kb[k]? = some s) : mres ka kb = mres ka (kb.take k) ++ ((s, k) :: (kb.drop (k + 1)).zipIdx (k + 1)).filterMap (hitF ka) := by
  have hk := (List.getElem?_eq_some_iff.1 h).1
  rw [mres_split ka kb k (by omega), List.drop_eq_getElem_cons hk, (List.getElem?_eq_some_iff.1 h).2, List.zipIdx_cons]
theorem tAt_le (ka kb : List (List UInt8)) (k : Nat) (hk : k ≤ kb.length) : tAt ka kb k ≤ (mres ka kb).length := by
  rw [mres_split ka kb k hk, List.length_append]
  unfold tAt
  omega
theorem tAt_hit (ka kb : List (List UInt8)) (k : Nat) (s : List UInt8) (h : kb[k]? = some s) (hs : s ∈ ka) : (mres ka kb)[tAt ka kb k]? = some (ka.idxOf s, k) ∧ tAt ka kb (k + 1) = tAt ka kb k + 1 := by
  constructor
  · rw [mres_next ka kb k s h]
    unfold tAt
    rw [List.getElem?_append_right (Nat.le_refl _), Nat.sub_self]
    simp [hitF, hs]
  · unfold tAt
    rw [List.take_add_one, h]
    simp only [Option.toList_some]
    rw [mres_hit _ _ _ hs, List.length_append]
    rfl
theorem tAt_miss (ka kb : List (List UInt8)) (k : Nat) (s : List UInt8) (h : kb[k]? = some s) (hs : s ∉ ka) : (∀ p, (mres ka kb)[tAt ka kb k]? = some p → p.2 ≠ k) ∧ tAt ka kb (k + 1) = tAt ka kb k := by
  constructor
  · intro p hp
    rw [mres_next ka kb k s h] at hp
    unfold tAt at hp
    rw [List.getElem?_append_right (Nat.le_refl _), Nat.sub_self, List.filterMap_cons_none (by simp [hitF, hs])] at hp
    obtain ⟨q, hq, he⟩ := List.mem_filterMap.1 (List.mem_of_getElem? hp)
    have hm := List.mem_zipIdx hq
    unfold hitF at he
    split at he
    · cases he
      dsimp only
      omega
    · cases he
  · unfold tAt
    rw [List.take_add_one, h]
    simp only [Option.toList_some]
    rw [mres_miss _ _ _ hs]
theorem tAt_self (ka : List (List UInt8)) : ∀ k, k ≤ ka.length → tAt ka ka k = k := by
  intro k
  induction k with
  | zero => intro _; exact tAt_zero _ _
  | succ k ih =>
    intro hk
    have h : ka[k]? = some ka[k] := List.getElem?_eq_getElem (by omega)
    rw [(tAt_hit ka ka k _ h (List.mem_of_getElem? h)).2, ih (by omega)]
theorem mres_self_length (ka : List (List UInt8)) : (mres ka ka).length = ka.length := by
  rw [← tAt_last, tAt_self ka _ (Nat.le_refl _)]
theorem idxOf_le_of {ka : List (List UInt8)} {s : List UInt8} : ∀ {i : Nat}, ka[i]? = some s → ka.idxOf s ≤ i := by
  induction ka with
  | nil => intro i h; simp at h
  | cons x xs ih =>
    intro i h
    by_cases hx : x = s
    · simp [hx]
    · cases i with
      | zero => simp at h; exact absurd h hx
      | succ i =>
        have := ih (i := i) (by simpa using h)
        have hb : (x == s) = false := by simpa using hx
        rw [List.idxOf_cons, hb]
        simpa using this
theorem mres_self_at (ka : List (List UInt8)) (k : Nat) (hk : k < ka.length) : ∃ p, (mres ka ka)[k]? = some (p, k) ∧ p ≤ k := by
  have h : ka[k]? = some ka[k] := List.getElem?_eq_getElem hk
  have h1 := tAt_hit ka ka k _ h (List.mem_of_getElem? h)
  rw [tAt_self ka k (by omega)] at h1
  exact ⟨_, h1.1, idxOf_le_of h⟩
theorem idxOf_at' {ka : List (List UInt8)} {s : List UInt8} (h : s ∈ ka) : ka[ka.idxOf s]? = some s := by
  have := List.idxOf_lt_length_of_mem h
  rw [List.getElem?_eq_getElem this, List.getElem_idxOf]
theorem not_before_idxOf {ka : List (List UInt8)} {s t : List UInt8} : ∀ {i : Nat}, i < ka.idxOf s → ka[i]? = some t → t ≠ s := by
  intro i h ht e
  subst e
  have := idxOf_le_of ht
  omega
end Go.Proofs.Ytdhibimhohkmoaa
