/- Suffixes in order, plain: what a sort by keys gives. -/
import Derived.Test.YtcelkneeedebiaaX3
import Derived.Sort.Statements
namespace Go.Proofs.Ytcelkneeedebiaa
open Go.Sort

theorem swo_key (b : List UInt8) (K n : Nat) : SWO (fun x y : Fin n => lexlt (key b K x.1) (key b K y.1)) :=
  ⟨fun x => lexlt_irrefl _, fun _ _ _ h g => lexlt_trans h g, fun x y z h g => by
    cases q : lexlt (key b K x.1) (key b K z.1) with
    | false => rfl
    | true =>
      by_cases e : key b K x.1 = key b K y.1
      · rw [e] at q; rw [q] at g; cases g
      · rcases lexlt_total e with p | p
        · rw [p] at h; cases h
        · have := lexlt_trans p q; rw [this] at g; cases g⟩
theorem sortedK_of {b : List UInt8} {r : Nat → Nat} {w : Nat} (hrep : Rep b (max 1 w) r) [Inhabited (Fin b.length)] {cf : Fin b.length → Fin b.length → Int} (hcf : ∀ i j, cf i j < 0 ↔ keyLt b.length r w i.1 j.1)
    {d d' : Array (Fin b.length)} (hsz : d.size = b.length) (hd : (d.toList.map fun x => x.1).Perm (List.range b.length)) (hp : PermIn 0 d.size d d') (hs : SortedIn (fun x y => decide (cf x y < 0)) 0 d.size d') : SortedK b (nextK w) (d'.toList.map fun x => x.1) := by
  have hsz' : d'.size = d.size := hp.1
  have hex : ∀ a : Array (Fin b.length), a.size = d.size → (a.extract 0 d.size).toList = a.toList := fun a h => by
    rw [← h]; simp
  have hperm : (d'.toList).Perm (d.toList) := by
    have := hp.2.2
    rwa [hex d' hsz', hex d rfl] at this
  refine ⟨(hperm.map _).trans hd, fun s t hst ht => ?_⟩
  have h1 : s < d'.size := by omega
  have h2 : t < d'.size := by omega
  have hg : ∀ u (hu : u < d'.size), (d'.toList.map fun x => x.1).getD u 0 = d'[u].1 := fun u hu => by
    rw [getD_of (by rw [List.length_map, Array.length_toList]; exact hu)]
    simp
  have := hs s t (Nat.zero_le _) hst (by omega)
  rw [getElem!_pos d' t h2, getElem!_pos d' s h1, decide_eq_false_iff_not, hcf, keyLt_rep hrep d'[t].2 d'[s].2] at this
  rw [hg s h1, hg t h2]
  simpa using this
theorem lt_key {b : List UInt8} {r : Nat → Nat} {w : Nat} (hrep : Rep b (max 1 w) r) {cf : Fin b.length → Fin b.length → Int} (hcf : ∀ i j, cf i j < 0 ↔ keyLt b.length r w i.1 j.1) : (fun x y => decide (cf x y < 0)) = fun x y : Fin b.length => lexlt (key b (nextK w) x.1) (key b (nextK w) y.1) := by
  funext x y
  rw [Bool.eq_iff_iff, decide_eq_true_eq, hcf, keyLt_rep hrep x.2 y.2]
/-- The comparison by keys. -/
def cmpI (x y : Int) : Int := if x < y then -1 else if y < x then 1 else 0
def cmpK (n : Nat) (r : Nat → Nat) (w i j : Nat) : Int := if cmpI (r i) (r j) ≠ 0 then cmpI (r i) (r j) else cmpI (sec n r w i) (sec n r w j)
theorem cmpK_lt (n : Nat) (r : Nat → Nat) (w i j : Nat) : cmpK n r w i j < 0 ↔ keyLt n r w i j := by
  unfold cmpK keyLt cmpI
  rcases (show r i < r j ∨ r i = r j ∨ r j < r i by omega) with h | h | h
  · rw [if_pos (show ((r i : Nat) : Int) < (r j : Int) by omega), if_pos (by decide)]
    exact ⟨fun _ => .inl h, fun _ => by decide⟩
  · rw [h, if_neg (Int.lt_irrefl _), if_neg (Int.lt_irrefl _), if_neg (by decide)]
    by_cases g : sec n r w i < sec n r w j
    · rw [if_pos g]
      exact ⟨fun _ => .inr ⟨rfl, g⟩, fun _ => by decide⟩
    · rw [if_neg g]
      constructor
      · intro q; split at q <;> omega
      · rintro (q | ⟨_, q⟩)
        · omega
        · exact absurd q g
  · rw [if_neg (show ¬ ((r i : Nat) : Int) < (r j : Int) by omega), if_pos (show ((r j : Nat) : Int) < (r i : Int) by omega), if_pos (by decide)]
    constructor
    · intro q; omega
    · rintro (q | ⟨q, _⟩) <;> omega
end Go.Proofs.Ytcelkneeedebiaa
