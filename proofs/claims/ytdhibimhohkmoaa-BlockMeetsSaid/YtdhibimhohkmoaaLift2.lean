/- What a law's walk is told of an array of two byte slices that came in. -/
import Derived.Test.YtdhibimhohkmoaaLift
namespace Go.Proofs.Ytdhibimhohkmoaa
open Go.ChangeShapes Go.WideShapes Go.ChangeAt Go.RowKit
open Go.WideMaps (ArrKey)

theorem open_bytes_cell {H : Type} {enc : TypeId × Value → H} {W : World} {fuel : Nat} {c0 : Value} {y : DataW H × List MemPlace}
    (hf : DataW.trod enc Try.prog W 0 (fun _ => true) true fuel 22 [c0] = some y) : ∃ (a : Option Addr) (len cap : Nat) (bs : List UInt8), c0 = .slice a len cap ∧ Rd W 1 a len (bs.map byteV) ∧ len ≤ cap := by
  obtain ⟨d, p⟩ := y
  rcases open_ints Try.underlying22 Try.underlying5 (by kernel_rfl) hf with ⟨hcs, _⟩ | ⟨x, l, c, zs, hcs, _, hl, hm, hz, _, hcell, hwz⟩
  · simp at hcs
    exact ⟨none, 0, 0, [], hcs, Rd.nil _ _ _, Nat.le_refl _⟩
  · simp at hcs
    exact ⟨some x, l, c, _, hcs, rd_bytes hl hm (by simpa using hz) hcell hwz, hl⟩

theorem info40 : Try.prog.underlying 40 = some (.array 2 22) := by kernel_rfl
theorem size40 : Try.prog.cellsOf 40 = 2 := by kernel_rfl
theorem size22 : Try.prog.cellsOf 22 = 1 := by kernel_rfl
theorem open_two {H : Type} {enc : TypeId × Value → H} {W : World} {r : Reach} {b0 : Nat} {v : Value} {d : DataW H} {p : List MemPlace} (hval : Value.okWide Try.prog W r b0 40 v)
    (h : DataW.Trod enc Try.prog W 0 (fun _ => true) true 40 v d p) : ∃ (a : Option Addr) (len cap : Nat) (bs : List UInt8) (a' : Option Addr) (len' cap' : Nat) (bs' : List UInt8), v = .agg #[.slice a len cap, .slice a' len' cap'] ∧
      Rd W 1 a len (bs.map byteV) ∧ len ≤ cap ∧ Rd W 1 a' len' (bs'.map byteV) ∧ len' ≤ cap' := by
  obtain ⟨c0, c1, rfl⟩ : ∃ c0 c1, v = .agg #[c0, c1] := by
    simp only [Value.okWide, info40] at hval
    obtain ⟨cs, h1, h2, _⟩ := hval
    rw [size40] at h2
    obtain ⟨l⟩ := cs
    match l, h2 with
    | [c0, c1], _ => exact ⟨c0, c1, h1⟩
  obtain ⟨fuel, hf⟩ := h
  cases fuel with
  | zero => simp [DataW.trod] at hf
  | succ n =>
    rw [DataW.trod_step] at hf
    unfold DataW.trodStep at hf
    simp only [info40, Value.cells] at hf
    rw [if_pos (by rw [size40]; rfl)] at hf
    simp only [Option.map_eq_some_iff] at hf
    obtain ⟨xs, hx, e1⟩ := hf
    rw [show List.range 2 = [0, 1] from rfl, List.mapM_cons, List.mapM_cons, List.mapM_nil] at hx
    simp only [bind, Option.bind_eq_some_iff, pure, Option.some.injEq, size22] at hx
    obtain ⟨y0, h0, _, ⟨y1, h1, _, rfl, rfl⟩, rfl⟩ := hx
    obtain ⟨a, len, cap, bs, e0, r0, l0⟩ := open_bytes_cell (c0 := c0) h0
    obtain ⟨a', len', cap', bs', e1', r1, l1⟩ := open_bytes_cell (c0 := c1) h1
    exact ⟨a, len, cap, bs, a', len', cap', bs', by rw [e0, e1'], r0, l0, r1, l1⟩
end Go.Proofs.Ytdhibimhohkmoaa
