/- A slice of slices of bytes as it came in. -/
import Derived.Test.YtgblkaoioeceiaaDoorLift15
import Derived.Deep.Slices
namespace Go.Proofs.YtgblkaoioeceiaaDoor
open Go.ChangeShapes Go.WideShapes Go.ChangeAt Go.RowKit Go.Deep

instance : Inhabited Sl := ⟨⟨none, 0, 0⟩⟩

theorem slice_of_trod {H : Type} {enc : TypeId × Value → H} {W : World} {base : Nat} {sp : Nat → Bool} {held : Bool} {fuel : Nat} {v : Value} {y : DataW H × List MemPlace}
    (h : DataW.trod enc Tryd.prog W base sp held fuel 22 [v] = some y) : ∃ s : Sl, v = slV s := by
  rcases DataW.trod_slice Tryd.underlying22 h with ⟨hc, _⟩ | ⟨a, len, cap, _, _, _, _, hc, _⟩
  · simp only [List.cons.injEq, and_true] at hc
    exact ⟨⟨none, 0, 0⟩, hc⟩
  · simp only [List.cons.injEq, and_true] at hc
    exact ⟨⟨some a, len, cap⟩, hc⟩
/-- A slice of slices of bytes as it came in. -/
theorem open_lists {H : Type} {enc : TypeId × Value → H} {W : World} {a : Option Addr} {len cap : Nat} {d : DataW H} {p : List MemPlace}
    (h : DataW.Trod enc Tryd.prog W 0 (fun _ => true) true 23 (.slice a len cap) d p) : ∃ cs : List (List UInt8), Lst W a len cs ∧ len ≤ cap := by
  obtain ⟨fuel, hf⟩ := h
  rcases open_slice1 Tryd.underlying23 (show Tryd.prog.cellsOf 22 = 1 by kernel_rfl) hf with ⟨hcs, _⟩ | ⟨x, l, c, m, n, V, D, Pl, hcs, _, hl, hm, hmm, _, hx⟩
  · simp [Value.cells] at hcs
    obtain ⟨rfl, rfl, rfl⟩ := hcs
    exact ⟨[], ⟨[], Rd.nil _ _ _, rfl, fun k v c h => by simp at h⟩, Nat.le_refl _⟩
  · simp [Value.cells] at hcs
    obtain ⟨rfl, rfl, rfl⟩ := hcs
    have hmc : m = cap := by rw [hmm]; simp
    have each : ∀ i, i < len → ∃ F : Sl × List UInt8, V i = slV F.1 ∧ Rd W 1 F.1.a F.1.n (F.2.map byteV) ∧ F.1.n ≤ F.1.c := fun i hi => by
      obtain ⟨_, h2⟩ := hx i (by omega)
      obtain ⟨s, hs⟩ := slice_of_trod h2
      rw [hs] at h2
      obtain ⟨bs, rd, le⟩ := open_bytes (a := s.a) (len := s.n) (cap := s.c) ⟨n, h2⟩
      exact ⟨(s, bs), hs, rd, le⟩
    obtain ⟨F, hF⟩ := choose_lt (α := Sl × List UInt8) (p := fun i F => V i = slV F.1 ∧ Rd W 1 F.1.a F.1.n (F.2.map byteV) ∧ F.1.n ≤ F.1.c) each
    refine ⟨(List.range len).map fun i => (F i).2, ⟨(List.range len).map fun i => (F i).1, ⟨by simp, by have : maxLen = 9223372036854775807 := rfl; omega, fun hp => ?_⟩, by simp, fun k v c hv hc => ?_⟩, hl⟩
    · obtain ⟨b, off, spot⟩ := x
      have hc0 := (hx 0 (by omega)).1
      have hspot : spot = none := by simpa [Addr.add] using World.cell?_spot hc0
      subst hspot
      refine ⟨b, off, rfl, fun j u hu => ?_⟩
      have hj : j < len := by
        have := (List.getElem?_eq_some_iff.1 hu).1
        simpa using this
      rw [List.getElem?_map, List.getElem?_map, List.getElem?_range hj] at hu
      simp only [Option.map_some, Option.some.injEq] at hu
      have hcj := (hx j (by omega)).1
      rw [show (⟨b, off, none⟩ : Addr).add j = ⟨b, off + j, none⟩ from by simp only [Addr.add]; split <;> simp_all, (hF j hj).1, hu] at hcj
      exact hcj
    · have hk : k < len := by
        have := (List.getElem?_eq_some_iff.1 hv).1
        simpa using this
      rw [List.getElem?_map, List.getElem?_range hk] at hv hc
      simp only [Option.map_some, Option.some.injEq] at hv hc
      subst hv hc
      exact (hF k hk).2
end Go.Proofs.YtgblkaoioeceiaaDoor
