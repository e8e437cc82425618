/- What a law's walk is told of its arguments, as they came in. -/
import Derived.Test.YtgelchbbknckcaaG19
import Derived.Test.YtgelchbbknckcaaRows
import Derived.WalkKit
import Derived.ProofKit
import Derived.OpenShut
import Derived.ShutString
import Derived.ChangeOld
import Derived.Below
import Derived.WideKeyPair
import Derived.ChangeSame
import Derived.Deep.Slices
import Derived.Lib.LaidTab
namespace Go.Proofs.Ytgelchbbknckcaa
open Go.ChangeShapes Go.WideShapes Go.ChangeAt Go.RowKit Go.Deep

theorem own : ownKnob Try.prog.godebug = none := by kernel_rfl
theorem laidOut : laidOutB Try.prog = true := by kernel_rfl

theorem rd_bytes {W : World} {x : Addr} {len cap : Nat} {zs : List Int} (hl : len ≤ cap) (hm : cap ≤ maxLen) (hz : zs.length = cap)
    (hcell : ∀ i, i < zs.length → W.cell? (x.add i) = some (.int .u8 (zs.getD i 0))) (hwz : ∀ n ∈ zs, (Lit.int .u8 n).wf = true) :
    Rd W 1 (some x) len (((zs.take len).map fun n => UInt8.ofNat n.toNat).map byteV) := by
  refine ⟨by simp; omega, by have : maxLen = 9223372036854775807 := rfl; omega, fun hpos => ?_⟩
  obtain ⟨b, off, spot⟩ := x
  have hc := hcell 0 (by omega)
  have hspot : spot = none := by simpa [Addr.add] using World.cell?_spot hc
  subst hspot
  refine ⟨b, off, rfl, fun j u hu => ?_⟩
  have hj : j < len := by
    have := (List.getElem?_eq_some_iff.1 hu).1
    simp at this
    omega
  have hcj := hcell j (by omega)
  rw [List.getElem?_map, List.getElem?_map, List.getElem?_take, if_pos hj, List.getElem?_eq_getElem (by omega)] at hu
  simp only [Option.map_some, Option.some.injEq] at hu
  subst hu
  have hw := hwz zs[j] (List.getElem_mem _)
  have hb := bounds_u8 hw
  rw [List.getD_eq_getElem?_getD, List.getElem?_eq_getElem (by omega), show (⟨b, off, none⟩ : Addr).add j = ⟨b, off + j, none⟩ from by simp only [Addr.add]; split <;> simp_all] at hcj
  rw [hcj]
  simp only [Option.getD_some, byteV]
  congr 2
  rw [UInt8.toNat_ofNat']
  omega

theorem open_bytes {H : Type} {enc : TypeId × Value → H} {W : World} {a : Option Addr} {len cap : Nat} {d : DataW H} {p : List MemPlace}
    (h : DataW.Trod enc Try.prog W 0 (fun _ => true) true 22 (.slice a len cap) d p) : ∃ bs : List UInt8, Rd W 1 a len (bs.map byteV) ∧ len ≤ cap := by
  obtain ⟨fuel, hf⟩ := h
  rcases open_ints Try.underlying22 Try.underlying5 (by kernel_rfl) hf with ⟨hcs, _⟩ | ⟨x, l, c, zs, hcs, _, hl, hm, hz, _, hcell, hwz⟩
  · simp [Value.cells] at hcs
    obtain ⟨rfl, rfl, rfl⟩ := hcs
    exact ⟨[], Rd.nil _ _ _, Nat.le_refl _⟩
  · simp [Value.cells] at hcs
    obtain ⟨rfl, rfl, rfl⟩ := hcs
    exact ⟨_, rd_bytes hl hm (by simpa using hz) hcell hwz, hl⟩

theorem u8_of {n : Int} (h : 0 ≤ n ∧ n ≤ 255) : ∃ b : UInt8, n = (b.toNat : Int) :=
  ⟨UInt8.ofNat n.toNat, by rw [UInt8.toNat_ofNat']; omega⟩
theorem underlying5' : Try.prog.underlying 5 = some (.int .u8) := by kernel_rfl
theorem cellsOf5 : Try.prog.cellsOf 5 = 1 := by kernel_rfl
theorem byte_of_trod {H : Type} {enc : TypeId × Value → H} {W : World} {base : Nat} {sp : Nat → Bool} {held : Bool} {fuel : Nat} {cs : List Value} {y : DataW H × List MemPlace}
    (h : DataW.trod enc Try.prog W base sp held fuel 5 cs = some y) : ∃ b : UInt8, cs = [byteV b] := by
  obtain ⟨z, hc, _, hw⟩ := DataW.trod_int underlying5' h
  obtain ⟨b, rfl⟩ := u8_of (bounds_u8 hw)
  exact ⟨b, hc⟩
def byteOf : Option Value → UInt8
  | some (.int _ z) => UInt8.ofNat z.toNat
  | _ => 0
theorem byteOf_some (b : UInt8) : byteOf (some (byteV b)) = b := by
  show UInt8.ofNat ((b.toNat : Int)).toNat = b
  rw [Int.toNat_natCast]
  simp
/-- So many bytes in an array. -/
def Arr (N : Nat) : Type := {l : List UInt8 // l.length = N}
def arrC {N : Nat} (h : Arr N) : List Value := h.1.map byteV
theorem arrC_len {N : Nat} (h : Arr N) : (arrC h).length = N := by simp [arrC, h.2]
set_option maxRecDepth 100000 in
/-- An array of bytes that is known as its cells. -/
theorem arr_of_trod {H : Type} {enc : TypeId × Value → H} {W : World} {base : Nat} {sp : Nat → Bool} {held : Bool} {fuel : Nat} {cs : List Value} {y : DataW H × List MemPlace} {T N : Nat} (hu : Try.prog.underlying T = some (.array N 5)) (hT : Try.prog.cellsOf T = N)
    (hl : cs.length = N) (hf : DataW.trod enc Try.prog W base sp held fuel T cs = some y) : ∃ x : Arr N, cs = arrC x := by
  cases fuel with
  | zero => simp [DataW.trod] at hf
  | succ fuel =>
    rw [DataW.trod_step] at hf
    unfold DataW.trodStep at hf
    simp only [hu] at hf
    rw [if_pos (by rw [hT]; simpa using hl)] at hf
    obtain ⟨xs, hm, _⟩ := Option.map_eq_some_iff.1 hf
    have hb : ∀ i, i < N → ∃ b : UInt8, cs[i]? = some (byteV b) := fun i hi => by
      obtain ⟨y, _, hy⟩ := Lib.mapM_at hm i i (by simp [hi])
      obtain ⟨b, hc⟩ := byte_of_trod hy
      rw [cellsOf5, Nat.mul_one] at hc
      refine ⟨b, ?_⟩
      have := congrArg (·[0]?) hc
      simpa [List.getElem?_take, List.getElem?_drop] using this
    refine ⟨⟨(List.range N).map fun i => byteOf cs[i]?, by simp⟩, ?_⟩
    unfold arrC
    apply List.ext_getElem?
    intro i
    by_cases hi : i < N
    · obtain ⟨b, hbi⟩ := hb i hi
      rw [hbi]
      simp only [List.map_map, List.getElem?_map, List.getElem?_range hi, Option.map_some, Function.comp, hbi, byteOf_some]
    · rw [List.getElem?_eq_none (by omega), List.getElem?_eq_none (by simp; omega)]
instance (N : Nat) : Inhabited (Arr N) := ⟨⟨List.replicate N 0, by simp⟩⟩
set_option maxRecDepth 100000 in
/-- A slice of arrays of bytes, as it came in. -/
theorem open_arrs {H : Type} {enc : TypeId × Value → H} {W : World} {a : Option Addr} {len cap : Nat} {d : DataW H} {p : List MemPlace} {S T N : Nat} (hS : Try.prog.underlying S = some (.slice T)) (hu : Try.prog.underlying T = some (.array N 5)) (hT : Try.prog.cellsOf T = N) (hN : 0 < N)
    (h : DataW.Trod enc Try.prog W 0 (fun _ => true) true S (.slice a len cap) d p) : ∃ xs : List (Arr N), Rd W N a len (xs.flatMap arrC) ∧ len ≤ cap := by
  obtain ⟨fuel, hf⟩ := h
  rcases open_slice hS hf with ⟨hcs, _⟩ | ⟨x, l, c, m, n, D, Pl, hcs, _, hl, hm, hmm, _, hx⟩
  · simp [Value.cells] at hcs
    obtain ⟨rfl, rfl, rfl⟩ := hcs
    exact ⟨[], Rd.nil _ _ _, Nat.le_refl _⟩
  · simp [Value.cells] at hcs
    obtain ⟨rfl, rfl, rfl⟩ := hcs
    have hmc : m = cap := by rw [hmm]; simp
    rw [hT] at hx
    have each : ∀ i, i < len → ∃ s : Arr N, W.cells? 0 (x.add (i * N)) N = some (arrC s) := fun i hi => by
      obtain ⟨cs', h1, h2⟩ := hx i (by omega)
      obtain ⟨s, rfl⟩ := arr_of_trod hu hT (World.cells?_some h1).2.1 h2
      exact ⟨s, h1⟩
    obtain ⟨F, hF⟩ := choose_lt (α := Arr N) (p := fun i s => W.cells? 0 (x.add (i * N)) N = some (arrC s)) each
    refine ⟨(List.range len).map F, ⟨by rw [flat_length arrC_len]; simp, by have : maxLen = 9223372036854775807 := rfl; omega, fun hp => ?_⟩, hl⟩
    obtain ⟨b, off, spot⟩ := x
    have hc0 := (World.cells?_some (hF 0 hp)).2.2 0 hN
    have hspot : spot = none := by
      rw [List.getElem?_eq_getElem (by rw [arrC_len]; exact hN)] at hc0
      simpa [Addr.add] using World.cell?_spot hc0
    subst hspot
    refine ⟨b, off, rfl, fun j u hu => ?_⟩
    have hj : j < len * N := by
      have := (List.getElem?_eq_some_iff.1 hu).1
      rw [flat_length arrC_len] at this
      simpa using this
    have hk : j / N < len := Nat.div_lt_of_lt_mul (by rw [Nat.mul_comm]; exact hj)
    have hmod : j % N < N := Nat.mod_lt _ hN
    have hg := flat_get (f := arrC) arrC_len ((List.range len).map F) (j / N) (j % N) (F (j / N)) (by rw [List.getElem?_map, List.getElem?_range hk]; rfl) hmod
    rw [show j / N * N + j % N = j from by rw [Nat.mul_comm]; exact Nat.div_add_mod j N, hu] at hg
    have h1 := (World.cells?_some (hF (j / N) hk)).2.2 (j % N) hmod
    rw [← hg] at h1
    rw [← h1]
    refine congrArg W.cell? ?_
    have : ∀ (n : Nat), (⟨b, off, none⟩ : Addr).add n = ⟨b, off + n, none⟩ := fun n => by unfold Addr.add; split <;> simp_all
    rw [this]
    have h2 : (⟨b, off + j / N * N, none⟩ : Addr).add (j % N) = ⟨b, off + j / N * N + j % N, none⟩ := by unfold Addr.add; split <;> simp_all
    rw [h2]
    congr 1
    have := Nat.div_add_mod j N
    rw [Nat.mul_comm] at this
    omega
def shapeOf : TypeDesc → List (Nat × Nat)
  | .struct fs => fs.toList.map fun f => (f.type, f.offset)
  | _ => []
theorem shape_struct {d : TypeDesc} {x : Nat × Nat} {l : List (Nat × Nat)} (h : shapeOf d = x :: l) : ∃ fs : Array Field, d = .struct fs ∧ fs.toList.map (fun f => (f.type, f.offset)) = x :: l := by
  cases d with
  | struct fs => exact ⟨fs, rfl, h⟩
  | _ => simp [shapeOf] at h
theorem und25s : ∃ f0 f1 : Field, Try.prog.underlying 25 = some (.struct #[f0, f1]) ∧ f0.type = 22 ∧ f0.offset = 0 ∧ f1.type = 23 ∧ f1.offset = 1 := by
  obtain ⟨d, h1, h2⟩ := Option.map_eq_some_iff.1 (show (Try.prog.underlying 25).map shapeOf = some [(22, 0), (23, 1)] by kernel_rfl)
  obtain ⟨fs, rfl, h3⟩ := shape_struct h2
  obtain ⟨l⟩ := fs
  match l, h3 with
  | [f0, f1], h3 =>
    simp at h3
    exact ⟨f0, f1, h1, h3.1.1, h3.1.2, h3.2.1, h3.2.2⟩
theorem size22c : Try.prog.cellsOf 22 = 1 := by kernel_rfl
theorem size23c : Try.prog.cellsOf 23 = 1 := by kernel_rfl
theorem size25c : Try.prog.cellsOf 25 = 2 := by kernel_rfl
theorem slice_of_trod {H : Type} {enc : TypeId × Value → H} {W : World} {base : Nat} {sp : Nat → Bool} {held : Bool} {fuel : Nat} {v : Value} {y : DataW H × List MemPlace} {S T : TypeId} (hS : Try.prog.underlying S = some (.slice T))
    (hf : DataW.trod enc Try.prog W base sp held fuel S [v] = some y) : ∃ (a : Option Addr) (len cap : Nat), v = .slice a len cap := by
  rcases open_slice hS hf with ⟨hcs, _⟩ | ⟨x, l, c, m, n, D, Pl, hcs, _⟩
  · simp at hcs; exact ⟨none, 0, 0, hcs⟩
  · simp at hcs; exact ⟨some x, l, c, hcs⟩
/-- Six bytes. -/
def r6Of (x : Arr 6) : R6 := ⟨x.1.getD 0 0, x.1.getD 1 0, x.1.getD 2 0, x.1.getD 3 0, x.1.getD 4 0, x.1.getD 5 0⟩
theorem r6Of_V (x : Arr 6) : arrC x = r6V (r6Of x) := by
  obtain ⟨l, hl⟩ := x
  match l, hl with
  | [a, b, c, d, e, f], _ => rfl
theorem flat_r6 (xs : List (Arr 6)) : xs.flatMap arrC = (xs.map r6Of).flatMap r6V := by
  induction xs with
  | nil => rfl
  | cons x xs ih => rw [List.flatMap_cons, List.map_cons, List.flatMap_cons, ih, r6Of_V]
/-- The description of a graph, as it came in. -/
theorem open_raw {H : Type} {enc : TypeId × Value → H} {W : World} {r : Reach} {b0 : Nat} {v : Value} {d : DataW H} {p : List MemPlace} (hval : Value.okWide Try.prog W r b0 25 v)
    (h : DataW.Trod enc Try.prog W 0 (fun _ => true) true 25 v d p) : ∃ (A : Option Addr) (n c : Nat) (B : Option Addr) (m e : Nat) (xs : List UInt8) (ys : List R6), v = .agg (grV A n c B m e).toArray ∧ Rd W 1 A n (xs.map byteV) ∧ Rd W 6 B m (ys.flatMap r6V) := by
  obtain ⟨f0, f1, hu, t0, o0, t1, o1⟩ := und25s
  obtain ⟨cs, rfl, h2⟩ := okWide_struct hu hval
  rw [size25c] at h2
  obtain ⟨l⟩ := cs
  match l, h2 with
  | [c0, c1], _ =>
    obtain ⟨fuel, hf⟩ := h
    obtain ⟨y0, y1, k, _, _, h0, h1⟩ := trod_struct2 hu hf
    rw [t0, o0, size22c] at h0
    rw [t1, o1, size23c] at h1
    obtain ⟨A, n, c, rfl⟩ := slice_of_trod (v := c0) Try.underlying22 h0
    obtain ⟨B, m, e, rfl⟩ := slice_of_trod (v := c1) Try.underlying23 h1
    obtain ⟨xs, hx, _⟩ := open_bytes (a := A) (len := n) (cap := c) (d := y0.1) (p := y0.2) ⟨k, h0⟩
    obtain ⟨ys, hy, _⟩ := open_arrs (N := 6) (a := B) (len := m) (cap := e) (d := y1.1) (p := y1.2) Try.underlying23 und66 (by kernel_rfl) (by omega) ⟨k, h1⟩
    exact ⟨A, n, c, B, m, e, xs, ys.map r6Of, rfl, hx, by rw [← flat_r6]; exact hy⟩
/-- An array of two or three bytes, as it came in. -/
theorem open_arr {H : Type} {enc : TypeId × Value → H} {W : World} {r : Reach} {b0 : Nat} {v : Value} {d : DataW H} {p : List MemPlace} {T N : Nat} (hu : Try.prog.underlying T = some (.array N 5)) (hT : Try.prog.cellsOf T = N) (hval : Value.okWide Try.prog W r b0 T v)
    (h : DataW.Trod enc Try.prog W 0 (fun _ => true) true T v d p) : ∃ x : Arr N, v = .agg (arrC x).toArray := by
  simp only [Value.okWide, hu] at hval
  obtain ⟨cs, rfl, h2, _⟩ := hval
  rw [hT] at h2
  obtain ⟨fuel, hf⟩ := h
  obtain ⟨x, hx⟩ := arr_of_trod hu hT (cs := cs.toList) (by simpa using h2) hf
  exact ⟨x, by rw [← hx]⟩
theorem arr3 (x : Arr 3) : ∃ a b c : UInt8, (arrC x).toArray = #[byteV a, byteV b, byteV c] := by
  obtain ⟨l, hl⟩ := x
  match l, hl with
  | [a, b, c], _ => exact ⟨a, b, c, rfl⟩
theorem arr2 (x : Arr 2) : ∃ a b : UInt8, (arrC x).toArray = #[byteV a, byteV b] := by
  obtain ⟨l, hl⟩ := x
  match l, hl with
  | [a, b], _ => exact ⟨a, b, rfl⟩
theorem open_arr3 {H : Type} {enc : TypeId × Value → H} {W : World} {r : Reach} {b0 : Nat} {v : Value} {d : DataW H} {p : List MemPlace} {T : Nat} (hu : Try.prog.underlying T = some (.array 3 5)) (hT : Try.prog.cellsOf T = 3) (hval : Value.okWide Try.prog W r b0 T v)
    (h : DataW.Trod enc Try.prog W 0 (fun _ => true) true T v d p) : ∃ a b c : UInt8, v = .agg #[byteV a, byteV b, byteV c] := by
  obtain ⟨x, rfl⟩ := open_arr hu hT hval h
  obtain ⟨a, b, c, e⟩ := arr3 x
  exact ⟨a, b, c, by rw [e]⟩
theorem open_arr2 {H : Type} {enc : TypeId × Value → H} {W : World} {r : Reach} {b0 : Nat} {v : Value} {d : DataW H} {p : List MemPlace} {T : Nat} (hu : Try.prog.underlying T = some (.array 2 5)) (hT : Try.prog.cellsOf T = 2) (hval : Value.okWide Try.prog W r b0 T v)
    (h : DataW.Trod enc Try.prog W 0 (fun _ => true) true T v d p) : ∃ a b : UInt8, v = .agg #[byteV a, byteV b] := by
  obtain ⟨x, rfl⟩ := open_arr hu hT hval h
  obtain ⟨a, b, e⟩ := arr2 x
  exact ⟨a, b, by rw [e]⟩
end Go.Proofs.Ytgelchbbknckcaa
