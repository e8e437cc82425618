/- A slice of hashes, as it came in. -/
import Derived.Test.YtgblkaoioeceiaaDoorLiftLists
namespace Go.Proofs.YtgblkaoioeceiaaDoor
open Go.ChangeShapes Go.WideShapes Go.ChangeAt Go.RowKit Go.Deep

instance : Inhabited Sum32 := ⟨⟨List.replicate 32 0, rfl⟩⟩
/-- A hash that is known as its cells. -/
theorem sum_of_trod {H : Type} {enc : TypeId × Value → H} {W : World} {base : Nat} {sp : Nat → Bool} {held : Bool} {fuel : Nat} {cs : List Value} {y : DataW H × List MemPlace}
    (hl : cs.length = 32) (hf : DataW.trod enc Tryd.prog W base sp held fuel 32 cs = some y) : ∃ x : Sum32, cs = sumC x := by
  have hu := und32
  cases fuel with
  | zero => simp [DataW.trod] at hf
  | succ fuel =>
    rw [DataW.trod_step] at hf
    unfold DataW.trodStep at hf
    simp only [hu] at hf
    rw [if_pos (by rw [cellsOf32]; simpa using hl)] at hf
    obtain ⟨xs, hm, _⟩ := Option.map_eq_some_iff.1 hf
    have hb : ∀ i, i < 32 → ∃ b : UInt8, cs[i]? = some (byteV b) := fun i hi => by
      obtain ⟨y, _, hy⟩ := Lib.mapM_at hm i i (by simp [hi])
      obtain ⟨b, hc⟩ := byte_of_trod hy
      rw [cellsOf5, Nat.mul_one] at hc
      refine ⟨b, ?_⟩
      have := congrArg (·[0]?) hc
      simpa [List.getElem?_take, List.getElem?_drop] using this
    refine ⟨⟨(List.range 32).map fun i => byteOf cs[i]?, by simp⟩, ?_⟩
    unfold sumC
    apply List.ext_getElem?
    intro i
    by_cases hi : i < 32
    · obtain ⟨b, hbi⟩ := hb i hi
      rw [hbi]
      simp only [List.map_map, List.getElem?_map, List.getElem?_range hi, Option.map_some, Function.comp, hbi, byteOf_some]
    · rw [List.getElem?_eq_none (by omega), List.getElem?_eq_none (by simp; omega)]
theorem open_sums {H : Type} {enc : TypeId × Value → H} {W : World} {a : Option Addr} {len cap : Nat} {d : DataW H} {p : List MemPlace}
    (h : DataW.Trod enc Tryd.prog W 0 (fun _ => true) true 27 (.slice a len cap) d p) : ∃ xs : List Sum32, Rd W 32 a len (xs.flatMap sumC) ∧ len ≤ cap := by
  obtain ⟨fuel, hf⟩ := h
  rcases open_slice Tryd.underlying27 hf with ⟨hcs, _⟩ | ⟨x, l, c, m, n, D, Pl, hcs, _, hl, hm, hmm, _, hx⟩
  · simp [Value.cells] at hcs
    obtain ⟨rfl, rfl, rfl⟩ := hcs
    exact ⟨[], Rd.nil _ _ _, Nat.le_refl _⟩
  · simp [Value.cells] at hcs
    obtain ⟨rfl, rfl, rfl⟩ := hcs
    have hmc : m = cap := by rw [hmm]; simp
    rw [cellsOf32] at hx
    have each : ∀ i, i < len → ∃ s : Sum32, W.cells? 0 (x.add (i * 32)) 32 = some (sumC s) := fun i hi => by
      obtain ⟨cs', h1, h2⟩ := hx i (by omega)
      obtain ⟨s, rfl⟩ := sum_of_trod (World.cells?_some h1).2.1 h2
      exact ⟨s, h1⟩
    obtain ⟨F, hF⟩ := choose_lt (α := Sum32) (p := fun i s => W.cells? 0 (x.add (i * 32)) 32 = some (sumC s)) each
    refine ⟨(List.range len).map F, ⟨by rw [flat_length sumC_len]; simp, by have : maxLen = 9223372036854775807 := rfl; omega, fun hp => ?_⟩, hl⟩
    obtain ⟨b, off, spot⟩ := x
    have hc0 := (World.cells?_some (hF 0 hp)).2.2 0 (by omega)
    have hspot : spot = none := by
      rw [List.getElem?_eq_getElem (by rw [sumC_len]; decide)] at hc0
      simpa [Addr.add] using World.cell?_spot hc0
    subst hspot
    refine ⟨b, off, rfl, fun j u hu => ?_⟩
    have hj : j < len * 32 := by
      have := (List.getElem?_eq_some_iff.1 hu).1
      rw [flat_length sumC_len] at this
      simpa using this
    have hk : j / 32 < len := by omega
    have hg := flat_get (f := sumC) sumC_len ((List.range len).map F) (j / 32) (j % 32) (F (j / 32)) (by rw [List.getElem?_map, List.getElem?_range hk]; rfl) (by omega)
    rw [show j / 32 * 32 + j % 32 = j from by omega, hu] at hg
    have h1 := (World.cells?_some (hF (j / 32) hk)).2.2 (j % 32) (by omega)
    rw [← hg] at h1
    rw [← h1]
    congr 1
    have : ∀ (n : Nat), (⟨b, off, none⟩ : Addr).add n = ⟨b, off + n, none⟩ := fun n => by unfold Addr.add; split <;> simp_all
    rw [this]
    have h2 : (⟨b, off + j / 32 * 32, none⟩ : Addr).add (j % 32) = ⟨b, off + j / 32 * 32 + j % 32, none⟩ := by unfold Addr.add; split <;> simp_all
    rw [h2]
    congr 1
    omega
end Go.Proofs.YtgblkaoioeceiaaDoor
