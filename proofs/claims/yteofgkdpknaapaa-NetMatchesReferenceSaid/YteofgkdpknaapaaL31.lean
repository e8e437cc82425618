/- What a law's walk is told of its arguments, as they came in. -/
import Derived.Test.YteofgkdpknaapaaN33
import Derived.Test.YteofgkdpknaapaaRows
import Derived.WalkKit
import Derived.ProofKit
import Derived.OpenShut
import Derived.ShutString
import Derived.ChangeOld
import Derived.Below
import Derived.WideKeyPair
import Derived.ChangeSame
import Derived.Deep.Slices
import Derived.Lib.LaidTab
namespace Go.Proofs.Yteofgkdpknaapaa
open Go.ChangeShapes Go.WideShapes Go.ChangeAt Go.RowKit Go.Deep

theorem own : ownKnob Try.prog.godebug = none := by kernel_rfl
theorem laidOut : laidOutB Try.prog = true := by kernel_rfl

theorem rd_bytes {W : World} {x : Addr} {len cap : Nat} {zs : List Int} (hl : len ≤ cap) (hm : cap ≤ maxLen) (hz : zs.length = cap)
    (hcell : ∀ i, i < zs.length → W.cell? (x.add i) = some (.int .u8 (zs.getD i 0))) (hwz : ∀ n ∈ zs, (Lit.int .u8 n).wf = true) :
    Rd W 1 (some x) len (((zs.take len).map fun n => UInt8.ofNat n.toNat).map byteV) := by
  refine ⟨by simp; omega, by have : maxLen = 9223372036854775807 := rfl; omega, fun hpos => ?_⟩
  obtain ⟨b, off, spot⟩ := x
  have hc := hcell 0 (by omega)
  have hspot : spot = none := by simpa [Addr.add] using World.cell?_spot hc
  subst hspot
  refine ⟨b, off, rfl, fun j u hu => ?_⟩
  have hj : j < len := by
    have := (List.getElem?_eq_some_iff.1 hu).1
    simp at this
    omega
  have hcj := hcell j (by omega)
  rw [List.getElem?_map, List.getElem?_map, List.getElem?_take, if_pos hj, List.getElem?_eq_getElem (by omega)] at hu
  simp only [Option.map_some, Option.some.injEq] at hu
  subst hu
  have hw := hwz zs[j] (List.getElem_mem _)
  have hb := bounds_u8 hw
  rw [List.getD_eq_getElem?_getD, List.getElem?_eq_getElem (by omega), show (⟨b, off, none⟩ : Addr).add j = ⟨b, off + j, none⟩ from by simp only [Addr.add]; split <;> simp_all] at hcj
  rw [hcj]
  simp only [Option.getD_some, byteV]
  congr 2
  rw [UInt8.toNat_ofNat']
  omega

theorem open_bytes {H : Type} {enc : TypeId × Value → H} {W : World} {a : Option Addr} {len cap : Nat} {d : DataW H} {p : List MemPlace}
    (h : DataW.Trod enc Try.prog W 0 (fun _ => true) true 26 (.slice a len cap) d p) : ∃ bs : List UInt8, Rd W 1 a len (bs.map byteV) ∧ len ≤ cap := by
  obtain ⟨fuel, hf⟩ := h
  rcases open_ints Try.underlying26 Try.underlying5 (by kernel_rfl) hf with ⟨hcs, _⟩ | ⟨x, l, c, zs, hcs, _, hl, hm, hz, _, hcell, hwz⟩
  · simp [Value.cells] at hcs
    obtain ⟨rfl, rfl, rfl⟩ := hcs
    exact ⟨[], Rd.nil _ _ _, Nat.le_refl _⟩
  · simp [Value.cells] at hcs
    obtain ⟨rfl, rfl, rfl⟩ := hcs
    exact ⟨_, rd_bytes hl hm (by simpa using hz) hcell hwz, hl⟩

theorem u8_ofI {n : Int} (h : 0 ≤ n ∧ n ≤ 255) : ∃ b : UInt8, n = (b.toNat : Int) :=
  ⟨UInt8.ofNat n.toNat, by rw [UInt8.toNat_ofNat']; omega⟩
theorem underlying5' : Try.prog.underlying 5 = some (.int .u8) := by kernel_rfl
theorem cellsOf5 : Try.prog.cellsOf 5 = 1 := by kernel_rfl
set_option maxRecDepth 100000 in
theorem byte_of_trod {H : Type} {enc : TypeId × Value → H} {W : World} {base : Nat} {sp : Nat → Bool} {held : Bool} {fuel : Nat} {cs : List Value} {y : DataW H × List MemPlace}
    (h : DataW.trod enc Try.prog W base sp held fuel 5 cs = some y) : ∃ b : UInt8, cs = [byteV b] := by
  obtain ⟨z, hc, _, hw⟩ := DataW.trod_int underlying5' h
  obtain ⟨b, rfl⟩ := u8_ofI (bounds_u8 hw)
  exact ⟨b, hc⟩
def shapeOf : TypeDesc → List (Nat × Nat)
  | .struct fs => fs.toList.map fun f => (f.type, f.offset)
  | _ => []
theorem shape_struct {d : TypeDesc} {x : Nat × Nat} {l : List (Nat × Nat)} (h : shapeOf d = x :: l) : ∃ fs : Array Field, d = .struct fs ∧ fs.toList.map (fun f => (f.type, f.offset)) = x :: l := by
  cases d with
  | struct fs => exact ⟨fs, rfl, h⟩
  | _ => simp [shapeOf] at h
theorem slice_of_trod {H : Type} {enc : TypeId × Value → H} {W : World} {base : Nat} {sp : Nat → Bool} {held : Bool} {fuel : Nat} {v : Value} {y : DataW H × List MemPlace} {S T : TypeId} (hS : Try.prog.underlying S = some (.slice T))
    (hf : DataW.trod enc Try.prog W base sp held fuel S [v] = some y) : ∃ (a : Option Addr) (len cap : Nat), v = .slice a len cap := by
  rcases open_slice hS hf with ⟨hcs, _⟩ | ⟨x, l, c, m, n, D, Pl, hcs, _⟩
  · simp at hcs; exact ⟨none, 0, 0, hcs⟩
  · simp at hcs; exact ⟨some x, l, c, hcs⟩
set_option maxRecDepth 100000 in
theorem und55s : ∃ f0 f1 f2 f3 f4 : Field, Try.prog.underlying 55 = some (.struct #[f0, f1, f2, f3, f4]) ∧ (f0.type = 5 ∧ f0.offset = 0) ∧ (f1.type = 5 ∧ f1.offset = 1) ∧ (f2.type = 5 ∧ f2.offset = 2) ∧ (f3.type = 26 ∧ f3.offset = 3) ∧ (f4.type = 5 ∧ f4.offset = 4) := by
  obtain ⟨d, h1, h2⟩ := Option.map_eq_some_iff.1 (show (Try.prog.underlying 55).map shapeOf = some [(5, 0), (5, 1), (5, 2), (26, 3), (5, 4)] by kernel_rfl)
  obtain ⟨fs, rfl, h3⟩ := shape_struct h2
  obtain ⟨l⟩ := fs
  match l, h3 with
  | [f0, f1, f2, f3, f4], h3 =>
    simp at h3
    exact ⟨f0, f1, f2, f3, f4, h1, h3.1, h3.2.1, h3.2.2.1, h3.2.2.2.1, h3.2.2.2.2⟩
theorem cells22c : Try.prog.cellsOf 26 = 1 := by kernel_rfl
theorem cells55c : Try.prog.cellsOf 55 = 5 := by kernel_rfl
set_option maxRecDepth 100000 in
theorem raw_of_trod {H : Type} {enc : TypeId × Value → H} {W : World} {fuel : Nat} {cs : List Value} {y : DataW H × List MemPlace}
    (h : DataW.trod enc Try.prog W 0 (fun _ => true) true fuel 55 cs = some y) : ∃ v : Wv, cs = wvC v ∧ WvOk W v := by
  obtain ⟨f0, f1, f2, f3, f4, hu, ⟨t0, o0⟩, ⟨t1, o1⟩, ⟨t2, o2⟩, ⟨t3, o3⟩, ⟨t4, o4⟩⟩ := und55s
  obtain ⟨xs, n, _, rfl, hl, hlen, hf⟩ := DataW.trod_struct hu h
  rw [cells55c] at hl
  have e0 := hf 0 f0 rfl
  have e1 := hf 1 f1 rfl
  have e2 := hf 2 f2 rfl
  have e3 := hf 3 f3 rfl
  have e4 := hf 4 f4 rfl
  rw [t0, o0, cellsOf5] at e0
  rw [t1, o1, cellsOf5] at e1
  rw [t2, o2, cellsOf5] at e2
  rw [t3, o3, cells22c] at e3
  rw [t4, o4, cellsOf5] at e4
  match xs, hlen with
  | [y0, y1, y2, y3, y4], _ =>
  match cs, hl with
  | [c0, c1, c2, c3, c4], _ =>
    obtain ⟨z0, q0⟩ := byte_of_trod e0
    obtain ⟨z1, q1⟩ := byte_of_trod e1
    obtain ⟨z2, q2⟩ := byte_of_trod e2
    obtain ⟨z4, q4⟩ := byte_of_trod e4
    simp at q0 q1 q2 q4
    subst q0 q1 q2 q4
    obtain ⟨A, n', c, rfl⟩ := slice_of_trod (v := c3) Try.underlying26 e3
    obtain ⟨bs, hb, hle⟩ := open_bytes (a := A) (len := n') (cap := c) (d := y3.1) (p := y3.2) ⟨_, e3⟩
    exact ⟨⟨⟨z0, z1, z2, bs, z4⟩, A, n', c⟩, rfl, hb, hle⟩
instance : Inhabited Wv := ⟨⟨⟨0, 0, 0, [], 0⟩, none, 0, 0⟩⟩
set_option maxRecDepth 100000 in
/-- A list of descriptions, as it came in. -/
theorem open_raws {H : Type} {enc : TypeId × Value → H} {W : World} {a : Option Addr} {len cap : Nat} {d : DataW H} {p : List MemPlace}
    (h : DataW.Trod enc Try.prog W 0 (fun _ => true) true 22 (.slice a len cap) d p) : ∃ xs : List Rw, RawsAt W a len xs ∧ len ≤ cap := by
  obtain ⟨fuel, hf⟩ := h
  rcases open_slice Try.underlying22 hf with ⟨hcs, _⟩ | ⟨x, l, c, m, n, D, Pl, hcs, _, hl, hm, hmm, _, hx⟩
  · simp [Value.cells] at hcs
    obtain ⟨rfl, rfl, rfl⟩ := hcs
    exact ⟨[], ⟨[], Rd.nil _ _ _, rfl, fun v hv => by cases hv⟩, Nat.le_refl _⟩
  · simp [Value.cells] at hcs
    obtain ⟨rfl, rfl, rfl⟩ := hcs
    have hmc : m = cap := by rw [hmm]; simp
    rw [cells55c] at hx
    have each : ∀ i, i < len → ∃ s : Wv, W.cells? 0 (x.add (i * 5)) 5 = some (wvC s) ∧ WvOk W s := fun i hi => by
      obtain ⟨cs', h1, h2⟩ := hx i (by omega)
      obtain ⟨s, rfl, h3⟩ := raw_of_trod h2
      exact ⟨s, h1, h3⟩
    obtain ⟨F, hF'⟩ := choose_lt (α := Wv) (p := fun i s => W.cells? 0 (x.add (i * 5)) 5 = some (wvC s) ∧ WvOk W s) each
    have hF := fun i hi => (hF' i hi).1
    refine ⟨((List.range len).map F).map (·.x), ⟨(List.range len).map F, ⟨by rw [flat_length wvC_len]; simp, by have : maxLen = 9223372036854775807 := rfl; omega, fun hp => ?_⟩, rfl, fun v hv => ?_⟩, hl⟩
    · obtain ⟨b, off, spot⟩ := x
      have hc0 := (World.cells?_some (hF 0 hp)).2.2 0 (by omega)
      have hspot : spot = none := by
        rw [List.getElem?_eq_getElem (by rw [wvC_len]; omega)] at hc0
        simpa [Addr.add] using World.cell?_spot hc0
      subst hspot
      refine ⟨b, off, rfl, fun j u hu => ?_⟩
      have hj : j < len * 5 := by
        have := (List.getElem?_eq_some_iff.1 hu).1
        rw [flat_length wvC_len] at this
        simpa using this
      have hk : j / 5 < len := by omega
      have hmod : j % 5 < 5 := Nat.mod_lt _ (by omega)
      have hg := flat_get (f := wvC) wvC_len ((List.range len).map F) (j / 5) (j % 5) (F (j / 5)) (by rw [List.getElem?_map, List.getElem?_range hk]; rfl) hmod
      rw [show j / 5 * 5 + j % 5 = j from by omega, hu] at hg
      have h1 := (World.cells?_some (hF (j / 5) hk)).2.2 (j % 5) hmod
      rw [← hg] at h1
      rw [← h1]
      refine congrArg W.cell? ?_
      have : ∀ (n : Nat), (⟨b, off, none⟩ : Addr).add n = ⟨b, off + n, none⟩ := fun n => by unfold Addr.add; split <;> simp_all
      rw [this]
      have h2 : (⟨b, off + j / 5 * 5, none⟩ : Addr).add (j % 5) = ⟨b, off + j / 5 * 5 + j % 5, none⟩ := by unfold Addr.add; split <;> simp_all
      rw [h2]
      congr 1
      omega
    · obtain ⟨i, hi, rfl⟩ := List.mem_map.1 hv
      exact (hF' i (List.mem_range.1 hi)).2
set_option maxRecDepth 100000 in
/-- An array, as it came in: each of its parts of one cell. -/
theorem open_array {H : Type} {enc : TypeId × Value → H} {W : World} {r : Reach} {b0 : Nat} {v : Value} {d : DataW H} {p : List MemPlace} {T N E : Nat} (hu : Try.prog.underlying T = some (.array N E)) (hT : Try.prog.cellsOf T = N) (hE : Try.prog.cellsOf E = 1) (hval : Value.okWide Try.prog W r b0 T v)
    (h : DataW.Trod enc Try.prog W 0 (fun _ => true) true T v d p) : ∃ cs : List Value, v = .agg cs.toArray ∧ cs.length = N ∧ ∀ i, i < N → ∃ c fuel y, cs[i]? = some c ∧ DataW.trod enc Try.prog W 0 (fun _ => true) true fuel E [c] = some y := by
  simp only [Value.okWide, hu] at hval
  obtain ⟨cs, rfl, h2, _⟩ := hval
  rw [hT] at h2
  obtain ⟨l⟩ := cs
  obtain ⟨fuel, hf⟩ := h
  cases fuel with
  | zero => simp [DataW.trod] at hf
  | succ fuel =>
    rw [DataW.trod_step] at hf
    unfold DataW.trodStep at hf
    simp only [hu] at hf
    have hl : l.length = N := by simpa using h2
    rw [if_pos (by rw [hT]; simpa [Value.cells] using hl)] at hf
    obtain ⟨xs, hm, _⟩ := Option.map_eq_some_iff.1 hf
    refine ⟨l, rfl, hl, fun i hi => ?_⟩
    obtain ⟨y, _, hy⟩ := Lib.mapM_at hm i i (by simp [hi])
    rw [hE, Nat.mul_one] at hy
    refine ⟨l[i], fuel, y, List.getElem?_eq_getElem (by omega), ?_⟩
    have e : ((Value.agg l.toArray).cells.toList.drop i).take 1 = [l[i]] := by
      have e1 : (Value.agg l.toArray).cells.toList = l := rfl
      rw [e1, List.drop_eq_getElem_cons (by omega)]
      rfl
    rw [e] at hy
    exact hy
theorem int_of_trodE {H : Type} {enc : TypeId × Value → H} {W : World} {fuel E : Nat} {k : IntKind} {c : Value} {y : DataW H × List MemPlace} (hu : Try.prog.underlying E = some (.int k))
    (h : DataW.trod enc Try.prog W 0 (fun _ => true) true fuel E [c] = some y) : ∃ z : Int, c = .int k z ∧ (Lit.int k z).wf = true := by
  obtain ⟨z, hc, _, hw⟩ := DataW.trod_int hu h
  simp at hc
  exact ⟨z, hc, hw⟩
set_option maxRecDepth 100000 in
/-- Two lists of descriptions, as they came in. -/
theorem open_raws2 {H : Type} {enc : TypeId × Value → H} {W : World} {r : Reach} {b0 : Nat} {v : Value} {d : DataW H} {p : List MemPlace} (hval : Value.okWide Try.prog W r b0 23 v)
    (h : DataW.Trod enc Try.prog W 0 (fun _ => true) true 23 v d p) : ∃ (A : Option Addr) (n c : Nat) (B : Option Addr) (m e : Nat) (xs ys : List Rw), v = .agg #[.slice A n c, .slice B m e] ∧ RawsAt W A n xs ∧ n ≤ c ∧ RawsAt W B m ys ∧ m ≤ e := by
  obtain ⟨cs, rfl, hl, hc⟩ := open_array (N := 2) (E := 22) (by kernel_rfl) (by kernel_rfl) (by kernel_rfl) hval h
  obtain ⟨c0, k0, y0, g0, e0⟩ := hc 0 (by omega)
  obtain ⟨c1, k1, y1, g1, e1⟩ := hc 1 (by omega)
  obtain ⟨A, n, c, rfl⟩ := slice_of_trod Try.underlying22 e0
  obtain ⟨B, m, e, rfl⟩ := slice_of_trod Try.underlying22 e1
  obtain ⟨xs, hx, h1⟩ := open_raws (a := A) (len := n) (cap := c) (d := y0.1) (p := y0.2) ⟨_, e0⟩
  obtain ⟨ys, hy, h2⟩ := open_raws (a := B) (len := m) (cap := e) (d := y1.1) (p := y1.2) ⟨_, e1⟩
  match cs, hl with
  | [d0, d1], _ =>
    simp at g0 g1
    subst g0 g1
    exact ⟨A, n, c, B, m, e, xs, ys, rfl, hx, h1, hy, h2⟩
set_option maxRecDepth 100000 in
/-- A truth value, as it came in. -/
theorem open_boolV {W : World} {r : Reach} {b0 : Nat} {v : Value} (hval : Value.okWide Try.prog W r b0 4 v) : ∃ b, v = .bool b := by
  exact okWide_bool Try.underlying4 hval
end Go.Proofs.Yteofgkdpknaapaa
