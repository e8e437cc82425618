/- More of what a law's walk is told of its arguments, as they came in. -/
import Derived.Test.YteofgkdpknaapaaL31
namespace Go.Proofs.Yteofgkdpknaapaa
open Go.ChangeShapes Go.WideShapes Go.ChangeAt Go.RowKit Go.Deep

set_option maxRecDepth 100000 in
/-- A description, as it came in. -/
theorem open_one {H : Type} {enc : TypeId × Value → H} {W : World} {r : Reach} {b0 : Nat} {v : Value} {d : DataW H} {p : List MemPlace} (hval : Value.okWide Try.prog W r b0 55 v)
    (h : DataW.Trod enc Try.prog W 0 (fun _ => true) true 55 v d p) : ∃ u : Wv, v = .agg (wvC u).toArray ∧ WvOk W u := by
  obtain ⟨f0, f1, f2, f3, f4, hu, _⟩ := und55s
  simp only [Value.okWide, hu] at hval
  obtain ⟨cs, rfl, _⟩ := hval
  obtain ⟨fuel, hf⟩ := h
  obtain ⟨u, hc, hok⟩ := raw_of_trod hf
  refine ⟨u, ?_, hok⟩
  obtain ⟨l⟩ := cs
  have e1 : (Value.agg l.toArray).cells.toList = l := rfl
  have e2 : (Value.agg ⟨l⟩).cells.toList = l := rfl
  rw [e2] at hc
  rw [hc]
theorem u16_nat {n : Int} (h : (Lit.int .u16 n).wf = true) : ∃ a : Nat, n = (a : Int) ∧ a < 65536 := by
  have := bounds_u16 h
  exact ⟨n.toNat, by omega, by omega⟩
set_option maxRecDepth 100000 in
/-- Two numbers, as they came in. -/
theorem open_q2 {H : Type} {enc : TypeId × Value → H} {W : World} {r : Reach} {b0 : Nat} {v : Value} {d : DataW H} {p : List MemPlace} (hval : Value.okWide Try.prog W r b0 57 v)
    (h : DataW.Trod enc Try.prog W 0 (fun _ => true) true 57 v d p) : ∃ a b : Nat, v = .agg #[.int .u16 (a : Int), .int .u16 (b : Int)] ∧ a < 65536 ∧ b < 65536 := by
  obtain ⟨cs, rfl, hl, hc⟩ := open_array (N := 2) (E := 56) (by kernel_rfl) (by kernel_rfl) (by kernel_rfl) hval h
  obtain ⟨c0, k0, y0, g0, e0⟩ := hc 0 (by omega)
  obtain ⟨c1, k1, y1, g1, e1⟩ := hc 1 (by omega)
  obtain ⟨z0, rfl, w0⟩ := int_of_trodE (k := .u16) (by kernel_rfl) e0
  obtain ⟨z1, rfl, w1⟩ := int_of_trodE (k := .u16) (by kernel_rfl) e1
  obtain ⟨a, rfl, ha⟩ := u16_nat w0
  obtain ⟨b, rfl, hb⟩ := u16_nat w1
  match cs, hl with
  | [d0, d1], _ =>
    simp at g0 g1
    subst g0 g1
    exact ⟨a, b, rfl, ha, hb⟩
set_option maxRecDepth 100000 in
/-- Three bytes, as they came in. -/
theorem open_w3 {H : Type} {enc : TypeId × Value → H} {W : World} {r : Reach} {b0 : Nat} {v : Value} {d : DataW H} {p : List MemPlace} (hval : Value.okWide Try.prog W r b0 62 v)
    (h : DataW.Trod enc Try.prog W 0 (fun _ => true) true 62 v d p) : ∃ a b c : UInt8, v = .agg #[byteV a, byteV b, byteV c] := by
  obtain ⟨cs, rfl, hl, hc⟩ := open_array (N := 3) (E := 5) (by kernel_rfl) (by kernel_rfl) (by kernel_rfl) hval h
  obtain ⟨c0, k0, y0, g0, e0⟩ := hc 0 (by omega)
  obtain ⟨c1, k1, y1, g1, e1⟩ := hc 1 (by omega)
  obtain ⟨c2, k2, y2, g2, e2⟩ := hc 2 (by omega)
  obtain ⟨a, q0⟩ := byte_of_trod e0
  obtain ⟨b, q1⟩ := byte_of_trod e1
  obtain ⟨c, q2⟩ := byte_of_trod e2
  simp at q0 q1 q2
  match cs, hl with
  | [d0, d1, d2], _ =>
    simp at g0 g1 g2
    subst g0 g1 g2
    exact ⟨a, b, c, by rw [q0, q1, q2]⟩
set_option maxRecDepth 100000 in
/-- Four small numbers, as they came in. -/
theorem open_q4 {H : Type} {enc : TypeId × Value → H} {W : World} {r : Reach} {b0 : Nat} {v : Value} {d : DataW H} {p : List MemPlace} (hval : Value.okWide Try.prog W r b0 25 v)
    (h : DataW.Trod enc Try.prog W 0 (fun _ => true) true 25 v d p) : ∃ a b c e : Int, v = .agg #[.int .i16 a, .int .i16 b, .int .i16 c, .int .i16 e] ∧ (-32768 ≤ a ∧ a ≤ 32767) ∧ (-32768 ≤ b ∧ b ≤ 32767) ∧ (-32768 ≤ c ∧ c ≤ 32767) ∧ (-32768 ≤ e ∧ e ≤ 32767) := by
  obtain ⟨cs, rfl, hl, hc⟩ := open_array (N := 4) (E := 24) (by kernel_rfl) (by kernel_rfl) (by kernel_rfl) hval h
  obtain ⟨c0, k0, y0, g0, e0⟩ := hc 0 (by omega)
  obtain ⟨c1, k1, y1, g1, e1⟩ := hc 1 (by omega)
  obtain ⟨c2, k2, y2, g2, e2⟩ := hc 2 (by omega)
  obtain ⟨c3, k3, y3, g3, e3⟩ := hc 3 (by omega)
  obtain ⟨z0, rfl, w0⟩ := int_of_trodE (k := .i16) (by kernel_rfl) e0
  obtain ⟨z1, rfl, w1⟩ := int_of_trodE (k := .i16) (by kernel_rfl) e1
  obtain ⟨z2, rfl, w2⟩ := int_of_trodE (k := .i16) (by kernel_rfl) e2
  obtain ⟨z3, rfl, w3⟩ := int_of_trodE (k := .i16) (by kernel_rfl) e3
  match cs, hl with
  | [d0, d1, d2, d3], _ =>
    simp at g0 g1 g2 g3
    subst g0 g1 g2 g3
    exact ⟨z0, z1, z2, z3, rfl, bounds_i16 w0, bounds_i16 w1, bounds_i16 w2, bounds_i16 w3⟩
end Go.Proofs.Yteofgkdpknaapaa
