/- Four bytes in an array, as they came in. -/
import Derived.Test.YtgblkaoioeceiaaDoorLiftLists
namespace Go.Proofs.YtgblkaoioeceiaaDoor
open Go.ChangeShapes Go.WideShapes Go.ChangeAt Go.RowKit Go.Deep

theorem und39 : Tryd.prog.underlying 39 = some (.array 4 5) := by kernel_rfl
theorem cellsOf39 : Tryd.prog.cellsOf 39 = 4 := by kernel_rfl
/-- Four bytes as they came in. -/
theorem open_four {H : Type} {enc : TypeId × Value → H} {W : World} {base : Nat} {sp : Nat → Bool} {held : Bool} {r : Reach} {b0 : Nat} {v : Value} {d : DataW H} {ps : List MemPlace} (hval : Value.okWide Tryd.prog W r b0 39 v) (hd : DataW.Trod enc Tryd.prog W base sp held 39 v d ps) :
    ∃ a b c d : UInt8, v = .agg #[byteV a, byteV b, byteV c, byteV d] := by
  have hu := und39
  simp only [Value.okWide, hu] at hval
  obtain ⟨cs, rfl, h2, _⟩ := hval
  rw [cellsOf39] at h2
  obtain ⟨fuel, hf⟩ := hd
  cases fuel with
  | zero => simp [DataW.trod] at hf
  | succ fuel =>
    rw [DataW.trod_step] at hf
    unfold DataW.trodStep at hf
    simp only [hu, Value.cells] at hf
    rw [if_pos (by rw [cellsOf39]; simpa using h2)] at hf
    obtain ⟨xs, hm, _⟩ := Option.map_eq_some_iff.1 hf
    have hb : ∀ i, i < 4 → ∃ b : UInt8, cs.toList[i]? = some (byteV b) := fun i hi => by
      obtain ⟨y, _, hy⟩ := Lib.mapM_at hm i i (by simp [hi])
      obtain ⟨b, hc⟩ := byte_of_trod hy
      rw [cellsOf5, Nat.mul_one] at hc
      refine ⟨b, ?_⟩
      have := congrArg (·[0]?) hc
      simpa [List.getElem?_take, List.getElem?_drop] using this
    obtain ⟨x0, h0⟩ := hb 0 (by omega)
    obtain ⟨x1, h1⟩ := hb 1 (by omega)
    obtain ⟨x2, h2'⟩ := hb 2 (by omega)
    obtain ⟨x3, h3⟩ := hb 3 (by omega)
    refine ⟨x0, x1, x2, x3, ?_⟩
    congr 1
    apply Array.ext_getElem?
    intro i
    by_cases hi : i < 4
    · have : i = 0 ∨ i = 1 ∨ i = 2 ∨ i = 3 := by omega
      rcases this with rfl | rfl | rfl | rfl
      · simpa using h0
      · simpa using h1
      · simpa using h2'
      · simpa using h3
    · rw [Array.getElem?_eq_none (by omega), Array.getElem?_eq_none (by simp; omega)]
end Go.Proofs.YtgblkaoioeceiaaDoor
