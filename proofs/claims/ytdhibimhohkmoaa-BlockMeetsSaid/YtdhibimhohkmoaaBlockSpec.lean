/- Blocks of a list of bytes, in plain Lean: where a block ends, and the list of all of them. No program in sight. -/
namespace Go.Proofs.Ytdhibimhohkmoaa

/-- The sum of the four bytes before place i. -/
def sumAt (bs : List UInt8) (i : Nat) : Nat :=
  (bs.getD (i - 4) 0).toNat + (bs.getD (i - 3) 0).toNat + (bs.getD (i - 2) 0).toNat + (bs.getD (i - 1) 0).toNat
/-- A block that begins at p may end at i. -/
def stp (bs : List UInt8) (lo hi p i : Nat) : Bool := decide (i = bs.length) || (decide (i - p = hi) || (decide (lo ≤ i - p) && decide (sumAt bs i % 16 = 0)))
/-- The blocks from place i on, the open one having begun at p. -/
def blks (bs : List UInt8) (lo hi : Nat) : Nat → Nat → Nat → List (Nat × Nat)
  | 0, _, _ => []
  | k + 1, p, i => if stp bs lo hi p (i + 1) = true then (p, i + 1) :: blks bs lo hi k (i + 1) (i + 1) else blks bs lo hi k p (i + 1)
def natPair (r : Nat × Nat) : Int × Int := ((r.1 : Int), (r.2 : Int))
/-- The bytes of a part. -/
def piece (bs : List UInt8) (r : Nat × Nat) : List UInt8 := (bs.take r.2).drop r.1
def blocks (bs : List UInt8) (lo hi : Nat) : List (Nat × Nat) := blks bs lo hi bs.length 0 0

theorem blks_yes {bs : List UInt8} {lo hi p k : Nat} (h : k < bs.length) (hs : stp bs lo hi p (k + 1) = true) :
    blks bs lo hi (bs.length - k) p k = (p, k + 1) :: blks bs lo hi (bs.length - (k + 1)) (k + 1) (k + 1) := by
  rw [show bs.length - k = (bs.length - (k + 1)) + 1 from by omega, blks, if_pos hs]
theorem blks_no {bs : List UInt8} {lo hi p k : Nat} (h : k < bs.length) (hs : stp bs lo hi p (k + 1) = false) :
    blks bs lo hi (bs.length - k) p k = blks bs lo hi (bs.length - (k + 1)) p (k + 1) := by
  rw [show bs.length - k = (bs.length - (k + 1)) + 1 from by omega, blks, if_neg (by simp [hs])]
/-- The sum of the last four bytes before place k (of all, if there are fewer). -/
def tailSum (bs : List UInt8) (k : Nat) : Int := (((bs.take k).drop (k - 4)).map (fun b => (b.toNat : Int))).sum
theorem tailSum_le (bs : List UInt8) (k : Nat) : 0 ≤ tailSum bs k ∧ tailSum bs k ≤ 1020 := by
  have h : ∀ (l : List UInt8), 0 ≤ (l.map (fun b => (b.toNat : Int))).sum ∧ (l.map (fun b => (b.toNat : Int))).sum ≤ 255 * l.length := by
    intro l
    induction l with
    | nil => simp
    | cons b l ih =>
      have hb := b.toNat_lt
      simp only [List.map_cons, List.sum_cons, List.length_cons]
      omega
  have h4 : ((bs.take k).drop (k - 4)).length ≤ 4 := by simp; omega
  have := h ((bs.take k).drop (k - 4))
  unfold tailSum
  omega
theorem tailSum_succ {bs : List UInt8} {k : Nat} {x : UInt8} (h : bs[k]? = some x) : tailSum bs (k + 1) = tailSum bs k + x.toNat - (if 4 ≤ k then ((bs.getD (k - 4) 0).toNat : Int) else 0) := by
  have hk : k < bs.length := (List.getElem?_eq_some_iff.1 h).1
  have htake : bs.take (k + 1) = bs.take k ++ [x] := by rw [List.take_add_one, h]; rfl
  have hl : (bs.take k).length = k := by simp; omega
  unfold tailSum
  rw [htake]
  by_cases h4 : 4 ≤ k
  · rw [if_pos h4, List.drop_append_of_le_length (by rw [hl]; omega), show k + 1 - 4 = (k - 4) + 1 from by omega]
    have hc : (bs.take k).drop (k - 4) = bs.getD (k - 4) 0 :: (bs.take k).drop (k - 4 + 1) := by
      rw [List.drop_eq_getElem_cons (by rw [hl]; omega)]
      congr 1
      rw [List.getElem_take]
      simp [List.getD, List.getElem?_eq_getElem (show k - 4 < bs.length from by omega)]
    rw [hc]
    simp only [List.map_append, List.map_cons, List.map_nil, List.sum_append, List.sum_cons, List.sum_nil]
    omega
  · rw [if_neg h4, show k + 1 - 4 = 0 from by omega, show k - 4 = 0 from by omega, List.drop_zero, List.drop_zero]
    simp only [List.map_append, List.map_cons, List.map_nil, List.sum_append, List.sum_cons, List.sum_nil]
    omega
theorem tailSum_eq (bs : List UInt8) (k : Nat) (h4 : 4 ≤ k) (hk : k ≤ bs.length) : tailSum bs k = (sumAt bs k : Nat) := by
  have hl : (bs.take k).length = k := by simp; omega
  have hc : ∀ j, j < k → (bs.take k).drop j = bs.getD j 0 :: (bs.take k).drop (j + 1) := by
    intro j hj
    rw [List.drop_eq_getElem_cons (by rw [hl]; omega)]
    congr 1
    rw [List.getElem_take]
    simp [List.getD, List.getElem?_eq_getElem (show j < bs.length from by omega)]
  unfold tailSum sumAt
  rw [hc (k - 4) (by omega), show k - 4 + 1 = k - 3 from by omega, hc (k - 3) (by omega), show k - 3 + 1 = k - 2 from by omega, hc (k - 2) (by omega), show k - 2 + 1 = k - 1 from by omega, hc (k - 1) (by omega),
    List.drop_of_length_le (by rw [hl]; omega)]
  simp only [List.map_cons, List.map_nil, List.sum_cons, List.sum_nil]
  omega

end Go.Proofs.Ytdhibimhohkmoaa
