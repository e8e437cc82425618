/- Parts of the laws: the secret made of drawn bytes: plain. -/
import Derived.Test.YtfdhiilhjfbehaaDoorS20
namespace Go.Proofs.YtfdhiilhjfbehaaDoor
open Go.RowKit Go.Sort

/-- 32 bytes: the given ones, zeros behind them. -/
def padL (l : List UInt8) : List UInt8 := (l ++ List.replicate 32 0).take 32
theorem padL_len (l : List UInt8) : (padL l).length = 32 := by unfold padL; rw [List.length_take, List.length_append, List.length_replicate]; omega
def padS (l : List UInt8) : Sum32 := ⟨padL l, padL_len l⟩
theorem padS_nil : padS [] = z32 := rfl
theorem padL_at (l : List UInt8) (j : Nat) (h : j < 32) : (padL l)[j]? = some (l.getD j 0) := by
  unfold padL
  rw [List.getElem?_take, if_pos h]
  by_cases a : j < l.length
  · rw [List.getElem?_append_left a, List.getD_eq_getElem?_getD, List.getElem?_eq_getElem a]; rfl
  · rw [List.getElem?_append_right (by omega), List.getElem?_replicate, if_pos (by omega), List.getD_eq_getElem?_getD, List.getElem?_eq_none (by omega)]; rfl
theorem padL_snoc {l : List UInt8} {b : UInt8} (_h : l.length < 32) : padL (l ++ [b]) = (padL l).set l.length b := by
  refine List.ext_getElem? fun j => ?_
  by_cases hj : j < 32
  · rw [padL_at _ j hj, List.getElem?_set]
    by_cases a : l.length = j
    · subst a
      rw [if_pos rfl, if_pos (by rw [padL_len]; exact hj)]
      simp
    · rw [if_neg a, padL_at _ j hj]
      congr 1
      rw [List.getD_eq_getElem?_getD, List.getD_eq_getElem?_getD]
      by_cases c : j < l.length
      · rw [List.getElem?_append_left c]
      · rw [List.getElem?_eq_none (by simp; omega), List.getElem?_eq_none (by omega)]
  · rw [List.getElem?_eq_none (by rw [padL_len]; omega), List.getElem?_eq_none (by rw [List.length_set, padL_len]; omega)]
theorem sec_byte {s : Sum32} {h n : Int} {s' : Sum32} {k : Nat} {b : UInt8} (hk : k < 32) (e : s'.1 = s.1.set k b) : (secV ⟨s, h, n⟩).toArray.setIfInBounds k (.int .u8 (b.toNat : Int)) = (secV ⟨s', h, n⟩).toArray := by
  rw [List.setIfInBounds_toArray]
  unfold secV
  rw [List.set_append_left _ _ (by rw [sumC_len]; exact hk)]
  unfold sumC
  rw [e, List.map_set]
  rfl
end Go.Proofs.YtfdhiilhjfbehaaDoor
