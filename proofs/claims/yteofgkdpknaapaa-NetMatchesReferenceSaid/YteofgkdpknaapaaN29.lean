/- Package net, plain: the packets that the laws make are valid. -/
import Derived.Test.YteofgkdpknaapaaN28
namespace Go.Proofs.Yteofgkdpknaapaa
open Go.RowKit Go.Sort

def keyJ (x : Rw) (j : Nat) : Ky := ⟨(((x.m.toNat + j) % 256 % 16 : Nat) : Int), sigL x⟩
def keysJ (x : Rw) (n : Nat) : List Ky := (List.range n).map (keyJ x)
theorem keysJ_succ (x : Rw) (n : Nat) : keysJ x (n + 1) = keysJ x n ++ [keyJ x n] := by simp [keysJ, List.range_succ]
theorem keysJ_len (x : Rw) (n : Nat) : (keysJ x n).length = n := by simp [keysJ]
/-- The packet that the laws make. -/
def madeP (x : Rw) : Pk :=
  if x.k.toNat % 4 = 0 then ⟨1, ((x.u.toNat % 8 : Nat) : Int), 0, [], [], [], []⟩
  else if x.k.toNat % 4 = 1 then ⟨2, ((x.u.toNat % 8 : Nat) : Int), 0, [], [], x.data.take 60, keysJ x (x.m.toNat / 8 % 3)⟩
  else if x.k.toNat % 4 = 2 then ⟨3, ((x.u.toNat % 8 : Nat) : Int), (x.n.toNat : Int), [], [], [], []⟩
  else ⟨4, ((x.u.toNat % 8 : Nat) : Int), (x.n.toNat : Int), x.data.take 60, shL (x.m.toNat % 9) x.m, [], []⟩
theorem madeP_valid (x : Rw) : validP (madeP x) = true := by
  have hu : (0 : Int) ≤ ((x.u.toNat % 8 : Nat) : Int) ∧ ((x.u.toNat % 8 : Nat) : Int) < 8 := by omega
  have hn := x.n.toNat_lt
  have hd : (x.data.take 60).length ≤ 60 := by rw [List.length_take]; omega
  unfold madeP
  split
  · unfold validP
    rw [if_pos rfl, decide_eq_true hu]
    simp [noData, noMeta]
  split
  · unfold validP
    rw [if_neg (show ¬ (2 : Int) = 1 by decide), if_pos rfl, decide_eq_true hu]
    have hk := keysJ_len x (x.m.toNat / 8 % 3)
    have hs : signedP (x.data.take 60) (keysJ x (x.m.toNat / 8 % 3)) = true := by
      unfold signedP
      rw [decide_eq_true ⟨by omega, by rw [hk]; omega⟩, Bool.true_and, List.all_eq_true]
      intro y hy
      obtain ⟨j, _, rfl⟩ := List.mem_map.1 hy
      unfold goodK keyJ
      rw [sigL_formed, Bool.and_true]
      exact decide_eq_true (by dsimp only; omega)
    simp [noData, hs]
  split
  · unfold validP
    rw [if_neg (show ¬ (3 : Int) = 1 by decide), if_neg (show ¬ (3 : Int) = 2 by decide), if_pos rfl, decide_eq_true hu]
    simp [noData, noMeta]
    omega
  · unfold validP
    rw [if_neg (show ¬ (4 : Int) = 1 by decide), if_neg (show ¬ (4 : Int) = 2 by decide), if_neg (show ¬ (4 : Int) = 3 by decide), if_pos rfl, decide_eq_true hu]
    have hk := shL_len (x.m.toNat % 9) x.m
    have h1 : decide (0 ≤ (x.n.toNat : Int) ∧ (x.n.toNat : Int) < 256) = true := decide_eq_true (by omega)
    have h2 : decide ((x.data.take 60).length ≤ 1024 ∧ (shL (x.m.toNat % 9) x.m).length ≤ 8) = true := decide_eq_true ⟨by omega, by rw [hk]; omega⟩
    rw [Bool.true_and]
    show (decide _ && decide _ && noMeta _) = true
    rw [h1, h2]
    rfl
end Go.Proofs.Yteofgkdpknaapaa
