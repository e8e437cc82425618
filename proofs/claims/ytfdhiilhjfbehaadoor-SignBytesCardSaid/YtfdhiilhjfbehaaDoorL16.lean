/- What a law's walk is told of its arguments and of the package variables, as they came in. -/
import Derived.Test.YtfdhiilhjfbehaaDoorS26
import Derived.Test.YtfdhiilhjfbehaaDoorRows
import Derived.Test.YtfdhiilhjfbehaaDoorCards
import Derived.Test.YtfdhiilhjfbehaaDoorTie
import Derived.WalkKit
import Derived.ProofKit
import Derived.OpenShut
import Derived.ShutString
import Derived.ChangeOld
import Derived.Below
import Derived.WideKeyPair
import Derived.ChangeVars
import Derived.JoinedOf
import Derived.LaidLaws
import Derived.LaidHandle
import Derived.Lib.LaidTab
import Derived.SevenTiedAt
import Derived.Stop.LaidErr
import Derived.Stop.Joined
import Derived.ChangeSame
import Derived.Deep.Slices
namespace Go.Proofs.YtfdhiilhjfbehaaDoor
section
open Go.ChangeShapes Go.WideShapes Go.ChangeAt Go.RowKit

theorem own : ownKnob Tryd.prog.godebug = none := by kernel_rfl
theorem laidOut : laidOutB Tryd.prog = true := by kernel_rfl

theorem rd_bytes {W : World} {x : Addr} {len cap : Nat} {zs : List Int} (hl : len ≤ cap) (hm : cap ≤ maxLen) (hz : zs.length = cap)
    (hcell : ∀ i, i < zs.length → W.cell? (x.add i) = some (.int .u8 (zs.getD i 0))) (hwz : ∀ n ∈ zs, (Lit.int .u8 n).wf = true) :
    Rd W 1 (some x) len (((zs.take len).map fun n => UInt8.ofNat n.toNat).map byteV) := by
  refine ⟨by simp; omega, by have : maxLen = 9223372036854775807 := rfl; omega, fun hpos => ?_⟩
  obtain ⟨b, off, spot⟩ := x
  have hc := hcell 0 (by omega)
  have hspot : spot = none := by simpa [Addr.add] using World.cell?_spot hc
  subst hspot
  refine ⟨b, off, rfl, fun j u hu => ?_⟩
  have hj : j < len := by
    have := (List.getElem?_eq_some_iff.1 hu).1
    simp at this
    omega
  have hcj := hcell j (by omega)
  rw [List.getElem?_map, List.getElem?_map, List.getElem?_take, if_pos hj, List.getElem?_eq_getElem (by omega)] at hu
  simp only [Option.map_some, Option.some.injEq] at hu
  subst hu
  have hw := hwz zs[j] (List.getElem_mem _)
  have hb := bounds_u8 hw
  rw [List.getD_eq_getElem?_getD, List.getElem?_eq_getElem (by omega), show (⟨b, off, none⟩ : Addr).add j = ⟨b, off + j, none⟩ from by simp only [Addr.add]; split <;> simp_all] at hcj
  rw [hcj]
  simp only [Option.getD_some, byteV]
  congr 2
  rw [UInt8.toNat_ofNat']
  omega

theorem open_bytes {H : Type} {enc : TypeId × Value → H} {W : World} {a : Option Addr} {len cap : Nat} {d : DataW H} {p : List MemPlace}
    (h : DataW.Trod enc Tryd.prog W 0 (fun _ => true) true 22 (.slice a len cap) d p) : ∃ bs : List UInt8, Rd W 1 a len (bs.map byteV) ∧ len ≤ cap := by
  obtain ⟨fuel, hf⟩ := h
  rcases open_ints Tryd.underlying22 Tryd.underlying5 (by kernel_rfl) hf with ⟨hcs, _⟩ | ⟨x, l, c, zs, hcs, _, hl, hm, hz, _, hcell, hwz⟩
  · simp [Value.cells] at hcs
    obtain ⟨rfl, rfl, rfl⟩ := hcs
    exact ⟨[], Rd.nil _ _ _, Nat.le_refl _⟩
  · simp [Value.cells] at hcs
    obtain ⟨rfl, rfl, rfl⟩ := hcs
    exact ⟨_, rd_bytes hl hm (by simpa using hz) hcell hwz, hl⟩

theorem u8_ofL {n : Int} (h : 0 ≤ n ∧ n ≤ 255) : ∃ b : UInt8, n = (b.toNat : Int) :=
  ⟨UInt8.ofNat n.toNat, by rw [UInt8.toNat_ofNat']; omega⟩
end
section
open Go.ChangeShapes Go.WideShapes Go.ChangeAt Go.RowKit

theorem gI : Tryd.prog.globalNamed "inlay/hash.initial" = some 0 := by kernel_rfl
theorem gIType : (Tryd.prog.globals[0]?).map (·.type) = some 80 := by kernel_rfl
theorem gR : Tryd.prog.globalNamed "inlay/hash.rounds" = some 1 := by kernel_rfl
theorem gRType : (Tryd.prog.globals[1]?).map (·.type) = some 96 := by kernel_rfl
theorem cells55 : Tryd.prog.cellsOf 79 = 1 := by kernel_rfl
theorem cells56 : Tryd.prog.cellsOf 80 = 8 := by kernel_rfl
theorem cells71 : Tryd.prog.cellsOf 96 = 64 := by kernel_rfl
def laidBoth : List (String × DataW Unit) := [("inlay/hash.initial", Rows.laid_inlay_hash_initial), ("inlay/hash.rounds", Rows.laid_inlay_hash_rounds)]
def initZ : List Int := [1779033703, 3144134277, 1013904242, 2773480762, 1359893119, 2600822924, 528734635, 1541459225]
def roundsZ : List Int := roundsL.map fun x => (x.toNat : Int)
theorem laidI {H : Type} : (Rows.laid_inlay_hash_initial : DataW H) = Lib.tabData .u32 initZ := rfl
theorem laidR {H : Type} : (Rows.laid_inlay_hash_rounds : DataW H) = Lib.tabData .u32 roundsZ := by kernel_rfl

theorem globs_of_laid {W : World} (h : laidMetH Tryd.prog laidBoth W) : Globs W := by
  have h1 : laidMet Tryd.prog laidBoth W := h
  unfold laidBoth at h1
  rw [laidI, laidR] at h1
  have t1 := Lib.tabIs_of_head gI gIType und56 und55 cells55 cells56 h1
  have t2 := Lib.tabIs_of_head gR gRType und71 und55 cells55 cells71 (laidMet.tail h1)
  have c1 := fun i hi => t1.cell gI i hi
  have c2 := fun i hi => t2.cell gR i hi
  refine ⟨c1 0 (by decide), c1 1 (by decide), c1 2 (by decide), c1 3 (by decide), c1 4 (by decide), c1 5 (by decide), c1 6 (by decide), c1 7 (by decide), fun j hj => ?_⟩
  have := c2 j (by show j < roundsZ.length; simp [roundsZ]; exact hj)
  rw [this]
  congr 2
  unfold roundsZ
  rw [List.getD_eq_getElem?_getD, List.getElem?_map, List.getD_eq_getElem?_getD, List.getElem?_eq_getElem (by exact hj)]
  rfl

/-- The settled world, the two variables holding what the text lays: the witness. -/
noncomputable def laidWorld (os : Os) : World :=
  let w0 := World.holding Tryd.prog os ⟨#[], #[], []⟩
  { w0 with heap := (w0.heap.modify 0 fun
      | .cells _ t frozen => .cells (initZ.map (Value.int .u32)).toArray t frozen
      | o => o).modify 1 fun
      | .cells _ t frozen => .cells (roundsZ.map (Value.int .u32)).toArray t frozen
      | o => o }
theorem laidWorld_met (os : Os) (args : Array Value) : laidMetH Tryd.prog laidBoth ((laidWorld os).forCall (fun _ _ => 0) ⟨#[], args, []⟩).memory :=
  laidMetH_of_parts (laidMet_of_run' 8 (by kernel_rfl) (by kernel_rfl)) (by kernel_rfl)

theorem underlying5' : Tryd.prog.underlying 5 = some (.int .u8) := by kernel_rfl
theorem cellsOf5 : Tryd.prog.cellsOf 5 = 1 := by kernel_rfl
theorem cellsOf32 : Tryd.prog.cellsOf 26 = 32 := by kernel_rfl
theorem byte_of_trod {H : Type} {enc : TypeId × Value → H} {W : World} {base : Nat} {sp : Nat → Bool} {held : Bool} {fuel : Nat} {cs : List Value} {y : DataW H × List MemPlace}
    (h : DataW.trod enc Tryd.prog W base sp held fuel 5 cs = some y) : ∃ b : UInt8, cs = [byteV b] := by
  obtain ⟨z, hc, _, hw⟩ := DataW.trod_int underlying5' h
  obtain ⟨b, rfl⟩ := u8_ofL (bounds_u8 hw)
  exact ⟨b, hc⟩
def byteOf : Option Value → UInt8
  | some (.int _ z) => UInt8.ofNat z.toNat
  | _ => 0
theorem byteOf_some (b : UInt8) : byteOf (some (byteV b)) = b := by
  show UInt8.ofNat ((b.toNat : Int)).toNat = b
  rw [Int.toNat_natCast]
  simp
theorem params_ok {l : Array TypeId} (h : (l.all fun t => !Tryd.prog.wantsStandIn t) = true) (j : Nat) (t : TypeId) (ht : l[j]? = some t) : Tryd.prog.wantsStandIn t = false := by
  have := Array.all_eq_true'.1 h t (Array.mem_of_getElem? ht)
  simpa using this
set_option maxRecDepth 100000 in
/-- A hash as it came in. -/
theorem open_sum {H : Type} {enc : TypeId × Value → H} {W : World} {base : Nat} {sp : Nat → Bool} {held : Bool} {r : Reach} {b0 : Nat} {v : Value} {d : DataW H} {ps : List MemPlace} (hval : Value.okWide Tryd.prog W r b0 26 v) (hd : DataW.Trod enc Tryd.prog W base sp held 26 v d ps) :
    ∃ x : Sum32, v = sumV x.1 := by
  have hu := und32
  simp only [Value.okWide, hu] at hval
  obtain ⟨cs, rfl, h2, _⟩ := hval
  rw [cellsOf32] at h2
  obtain ⟨fuel, hf⟩ := hd
  cases fuel with
  | zero => simp [DataW.trod] at hf
  | succ fuel =>
    rw [DataW.trod_step] at hf
    unfold DataW.trodStep at hf
    simp only [hu, Value.cells] at hf
    rw [if_pos (by rw [cellsOf32]; simpa using h2)] at hf
    obtain ⟨xs, hm, _⟩ := Option.map_eq_some_iff.1 hf
    have hb : ∀ i, i < 32 → ∃ b : UInt8, cs.toList[i]? = some (byteV b) := fun i hi => by
      obtain ⟨y, _, hy⟩ := Lib.mapM_at hm i i (by simp [hi])
      obtain ⟨b, hc⟩ := byte_of_trod hy
      rw [cellsOf5, Nat.mul_one] at hc
      refine ⟨b, ?_⟩
      have := congrArg (·[0]?) hc
      simpa [List.getElem?_take, List.getElem?_drop] using this
    refine ⟨⟨(List.range 32).map fun i => byteOf cs.toList[i]?, by simp⟩, ?_⟩
    unfold sumV
    refine congrArg Value.agg ?_
    apply Array.ext_getElem?
    intro i
    by_cases hi : i < 32
    · obtain ⟨b, hbi⟩ := hb i hi
      have h3 : cs[i]? = some (byteV b) := by rw [← hbi]; simp
      rw [h3]
      simp only [List.map_map, List.getElem?_toArray, List.getElem?_map, List.getElem?_range hi, Option.map_some, Function.comp, hbi, byteOf_some]
    · rw [Array.getElem?_eq_none (by omega), List.getElem?_toArray, List.getElem?_eq_none (by simp; omega)]
end
section
open Go.ChangeShapes Go.WideShapes Go.ChangeAt Go.RowKit Go.Deep

instance : Inhabited Sl := ⟨⟨none, 0, 0⟩⟩

theorem slice_of_trod {H : Type} {enc : TypeId × Value → H} {W : World} {base : Nat} {sp : Nat → Bool} {held : Bool} {fuel : Nat} {v : Value} {y : DataW H × List MemPlace}
    (h : DataW.trod enc Tryd.prog W base sp held fuel 22 [v] = some y) : ∃ s : Sl, v = slV s := by
  rcases DataW.trod_slice Tryd.underlying22 h with ⟨hc, _⟩ | ⟨a, len, cap, _, _, _, _, hc, _⟩
  · simp only [List.cons.injEq, and_true] at hc
    exact ⟨⟨none, 0, 0⟩, hc⟩
  · simp only [List.cons.injEq, and_true] at hc
    exact ⟨⟨some a, len, cap⟩, hc⟩
set_option maxRecDepth 100000 in
/-- A slice of slices of bytes as it came in. -/
theorem open_lists {H : Type} {enc : TypeId × Value → H} {W : World} {a : Option Addr} {len cap : Nat} {d : DataW H} {p : List MemPlace}
    (h : DataW.Trod enc Tryd.prog W 0 (fun _ => true) true 49 (.slice a len cap) d p) : ∃ cs : List (List UInt8), Lst W a len cs ∧ len ≤ cap := by
  obtain ⟨fuel, hf⟩ := h
  rcases open_slice1 Tryd.underlying49 (show Tryd.prog.cellsOf 22 = 1 by kernel_rfl) hf with ⟨hcs, _⟩ | ⟨x, l, c, m, n, V, D, Pl, hcs, _, hl, hm, hmm, _, hx⟩
  · simp [Value.cells] at hcs
    obtain ⟨rfl, rfl, rfl⟩ := hcs
    exact ⟨[], ⟨[], Rd.nil _ _ _, rfl, fun k v c h => by simp at h⟩, Nat.le_refl _⟩
  · simp [Value.cells] at hcs
    obtain ⟨rfl, rfl, rfl⟩ := hcs
    have hmc : m = cap := by rw [hmm]; simp
    have each : ∀ i, i < len → ∃ F : Sl × List UInt8, V i = slV F.1 ∧ Rd W 1 F.1.a F.1.n (F.2.map byteV) ∧ F.1.n ≤ F.1.c := fun i hi => by
      obtain ⟨_, h2⟩ := hx i (by omega)
      obtain ⟨s, hs⟩ := slice_of_trod h2
      rw [hs] at h2
      obtain ⟨bs, rd, le⟩ := open_bytes (a := s.a) (len := s.n) (cap := s.c) ⟨n, h2⟩
      exact ⟨(s, bs), hs, rd, le⟩
    obtain ⟨F, hF⟩ := choose_lt (α := Sl × List UInt8) (p := fun i F => V i = slV F.1 ∧ Rd W 1 F.1.a F.1.n (F.2.map byteV) ∧ F.1.n ≤ F.1.c) each
    refine ⟨(List.range len).map fun i => (F i).2, ⟨(List.range len).map fun i => (F i).1, ⟨by simp, by have : maxLen = 9223372036854775807 := rfl; omega, fun hp => ?_⟩, by simp, fun k v c hv hc => ?_⟩, hl⟩
    · obtain ⟨b, off, spot⟩ := x
      have hc0 := (hx 0 (by omega)).1
      have hspot : spot = none := by simpa [Addr.add] using World.cell?_spot hc0
      subst hspot
      refine ⟨b, off, rfl, fun j u hu => ?_⟩
      have hj : j < len := by
        have := (List.getElem?_eq_some_iff.1 hu).1
        simpa using this
      rw [List.getElem?_map, List.getElem?_map, List.getElem?_range hj] at hu
      simp only [Option.map_some, Option.some.injEq] at hu
      have hcj := (hx j (by omega)).1
      rw [show (⟨b, off, none⟩ : Addr).add j = ⟨b, off + j, none⟩ from by simp only [Addr.add]; split <;> simp_all, (hF j hj).1, hu] at hcj
      exact hcj
    · have hk : k < len := by
        have := (List.getElem?_eq_some_iff.1 hv).1
        simpa using this
      rw [List.getElem?_map, List.getElem?_range hk] at hv hc
      simp only [Option.map_some, Option.some.injEq] at hv hc
      subst hv hc
      exact (hF k hk).2
end
section
open Go.ChangeShapes Go.WideShapes Go.ChangeAt Go.RowKit Go.Deep

set_option maxRecDepth 100000 in
/-- An array of bytes as it came in. -/
theorem open_arr {H : Type} {enc : TypeId × Value → H} {W : World} {base : Nat} {sp : Nat → Bool} {held : Bool} {r : Reach} {b0 : Nat} {v : Value} {d : DataW H} {ps : List MemPlace} {T N : Nat} (hu : Tryd.prog.underlying T = some (.array N 5)) (hT : Tryd.prog.cellsOf T = N) (hval : Value.okWide Tryd.prog W r b0 T v) (hd : DataW.Trod enc Tryd.prog W base sp held T v d ps) :
    ∃ x : List UInt8, x.length = N ∧ v = .agg (x.map byteV).toArray := by
  simp only [Value.okWide, hu] at hval
  obtain ⟨cs, rfl, h2, _⟩ := hval
  rw [hT] at h2
  obtain ⟨fuel, hf⟩ := hd
  cases fuel with
  | zero => simp [DataW.trod] at hf
  | succ fuel =>
    rw [DataW.trod_step] at hf
    unfold DataW.trodStep at hf
    simp only [hu, Value.cells] at hf
    rw [if_pos (by rw [hT]; simpa using h2)] at hf
    obtain ⟨xs, hm, _⟩ := Option.map_eq_some_iff.1 hf
    have hb : ∀ i, i < N → ∃ b : UInt8, cs.toList[i]? = some (byteV b) := fun i hi => by
      obtain ⟨y, _, hy⟩ := Lib.mapM_at hm i i (by simp [hi])
      obtain ⟨b, hc⟩ := byte_of_trod hy
      rw [cellsOf5, Nat.mul_one] at hc
      refine ⟨b, ?_⟩
      have := congrArg (·[0]?) hc
      simpa [List.getElem?_take, List.getElem?_drop] using this
    refine ⟨(List.range N).map fun i => byteOf cs.toList[i]?, by simp, ?_⟩
    refine congrArg Value.agg ?_
    apply Array.ext_getElem?
    intro i
    by_cases hi : i < N
    · obtain ⟨b, hbi⟩ := hb i hi
      have h3 : cs[i]? = some (byteV b) := by rw [← hbi]; simp
      rw [h3]
      simp only [List.map_map, List.getElem?_toArray, List.getElem?_map, List.getElem?_range hi, Option.map_some, Function.comp, hbi, byteOf_some]
    · rw [Array.getElem?_eq_none (by omega), List.getElem?_toArray, List.getElem?_eq_none (by simp; omega)]
theorem arr_two {x : List UInt8} (h : x.length = 2) : ∃ a b, x = [a, b] := by
  rcases x with _ | ⟨a, _ | ⟨b, _ | ⟨c, x⟩⟩⟩
  · simp at h
  · simp at h
  · exact ⟨a, b, rfl⟩
  · simp at h
theorem arr_three {x : List UInt8} (h : x.length = 3) : ∃ a b c, x = [a, b, c] := by
  rcases x with _ | ⟨a, x⟩
  · simp at h
  obtain ⟨b, c, rfl⟩ := arr_two (x := x) (by simpa using h)
  exact ⟨a, b, c, rfl⟩
theorem arr_five {x : List UInt8} (h : x.length = 5) : ∃ a b c d e, x = [a, b, c, d, e] := by
  rcases x with _ | ⟨a, _ | ⟨b, x⟩⟩
  · simp at h
  · simp at h
  obtain ⟨c, d, e, rfl⟩ := arr_three (x := x) (by simpa using h)
  exact ⟨a, b, c, d, e, rfl⟩
set_option maxRecDepth 100000 in
/-- Four small numbers as they came in. -/
theorem open_four8 {H : Type} {enc : TypeId × Value → H} {W : World} {base : Nat} {sp : Nat → Bool} {held : Bool} {r : Reach} {b0 : Nat} {v : Value} {d : DataW H} {ps : List MemPlace} {T E : Nat} (hu : Tryd.prog.underlying T = some (.array 4 E)) (hE : Tryd.prog.underlying E = some (.int .i8)) (h1 : Tryd.prog.cellsOf E = 1) (hT : Tryd.prog.cellsOf T = 4) (hval : Value.okWide Tryd.prog W r b0 T v) (hd : DataW.Trod enc Tryd.prog W base sp held T v d ps) :
    ∃ x0 x1 x2 x3 : Int, v = .agg #[.int .i8 x0, .int .i8 x1, .int .i8 x2, .int .i8 x3] ∧ (-128 ≤ x2 ∧ x2 ≤ 127) ∧ (-128 ≤ x3 ∧ x3 ≤ 127) := by
  simp only [Value.okWide, hu] at hval
  obtain ⟨cs, rfl, h2, _⟩ := hval
  rw [hT] at h2
  obtain ⟨fuel, hf⟩ := hd
  cases fuel with
  | zero => simp [DataW.trod] at hf
  | succ fuel =>
    rw [DataW.trod_step] at hf
    unfold DataW.trodStep at hf
    simp only [hu, Value.cells] at hf
    rw [if_pos (by rw [hT]; simpa using h2)] at hf
    obtain ⟨xs, hm, _⟩ := Option.map_eq_some_iff.1 hf
    have hb : ∀ i, i < 4 → ∃ b : Int, cs.toList[i]? = some (.int .i8 b) ∧ (-128 ≤ b ∧ b ≤ 127) := fun i hi => by
      obtain ⟨y, _, hy⟩ := Lib.mapM_at hm i i (by simp [hi])
      obtain ⟨z, hc, _, hw⟩ := DataW.trod_int hE hy
      rw [h1, Nat.mul_one] at hc
      refine ⟨z, ?_, bounds_i8 hw⟩
      have := congrArg (·[0]?) hc
      simpa [List.getElem?_take, List.getElem?_drop] using this
    obtain ⟨x0, h0, _⟩ := hb 0 (by omega)
    obtain ⟨x1, h1', _⟩ := hb 1 (by omega)
    obtain ⟨x2, h2', g2⟩ := hb 2 (by omega)
    obtain ⟨x3, h3, g3⟩ := hb 3 (by omega)
    refine ⟨x0, x1, x2, x3, ?_, g2, g3⟩
    refine congrArg Value.agg ?_
    apply Array.ext_getElem?
    intro i
    by_cases hi : i < 4
    · have : i = 0 ∨ i = 1 ∨ i = 2 ∨ i = 3 := by omega
      rcases this with rfl | rfl | rfl | rfl
      · simpa using h0
      · simpa using h1'
      · simpa using h2'
      · simpa using h3
    · rw [Array.getElem?_eq_none (by omega), Array.getElem?_eq_none (by simp; omega)]
end
section
open Go.ChangeShapes Go.WideShapes Go.ChangeAt Go.RowKit Go.Deep

instance : Inhabited Sum32 := ⟨⟨List.replicate 32 0, rfl⟩⟩
set_option maxRecDepth 100000 in
/-- A hash that is known as its cells. -/
theorem sum_of_trod {H : Type} {enc : TypeId × Value → H} {W : World} {base : Nat} {sp : Nat → Bool} {held : Bool} {fuel : Nat} {cs : List Value} {y : DataW H × List MemPlace}
    (hl : cs.length = 32) (hf : DataW.trod enc Tryd.prog W base sp held fuel 26 cs = some y) : ∃ x : Sum32, cs = sumC x := by
  have hu := und32
  cases fuel with
  | zero => simp [DataW.trod] at hf
  | succ fuel =>
    rw [DataW.trod_step] at hf
    unfold DataW.trodStep at hf
    simp only [hu] at hf
    rw [if_pos (by rw [cellsOf32]; simpa using hl)] at hf
    obtain ⟨xs, hm, _⟩ := Option.map_eq_some_iff.1 hf
    have hb : ∀ i, i < 32 → ∃ b : UInt8, cs[i]? = some (byteV b) := fun i hi => by
      obtain ⟨y, _, hy⟩ := Lib.mapM_at hm i i (by simp [hi])
      obtain ⟨b, hc⟩ := byte_of_trod hy
      rw [cellsOf5, Nat.mul_one] at hc
      refine ⟨b, ?_⟩
      have := congrArg (·[0]?) hc
      simpa [List.getElem?_take, List.getElem?_drop] using this
    refine ⟨⟨(List.range 32).map fun i => byteOf cs[i]?, by simp⟩, ?_⟩
    unfold sumC
    apply List.ext_getElem?
    intro i
    by_cases hi : i < 32
    · obtain ⟨b, hbi⟩ := hb i hi
      rw [hbi]
      simp only [List.map_map, List.getElem?_map, List.getElem?_range hi, Option.map_some, Function.comp, hbi, byteOf_some]
    · rw [List.getElem?_eq_none (by omega), List.getElem?_eq_none (by simp; omega)]
set_option maxRecDepth 100000 in
theorem open_sums {H : Type} {enc : TypeId × Value → H} {W : World} {a : Option Addr} {len cap : Nat} {d : DataW H} {p : List MemPlace}
    (h : DataW.Trod enc Tryd.prog W 0 (fun _ => true) true 35 (.slice a len cap) d p) : ∃ xs : List Sum32, Rd W 32 a len (xs.flatMap sumC) ∧ len ≤ cap := by
  obtain ⟨fuel, hf⟩ := h
  rcases open_slice Tryd.underlying35 hf with ⟨hcs, _⟩ | ⟨x, l, c, m, n, D, Pl, hcs, _, hl, hm, hmm, _, hx⟩
  · simp [Value.cells] at hcs
    obtain ⟨rfl, rfl, rfl⟩ := hcs
    exact ⟨[], Rd.nil _ _ _, Nat.le_refl _⟩
  · simp [Value.cells] at hcs
    obtain ⟨rfl, rfl, rfl⟩ := hcs
    have hmc : m = cap := by rw [hmm]; simp
    rw [cellsOf32] at hx
    have each : ∀ i, i < len → ∃ s : Sum32, W.cells? 0 (x.add (i * 32)) 32 = some (sumC s) := fun i hi => by
      obtain ⟨cs', h1, h2⟩ := hx i (by omega)
      obtain ⟨s, rfl⟩ := sum_of_trod (World.cells?_some h1).2.1 h2
      exact ⟨s, h1⟩
    obtain ⟨F, hF⟩ := choose_lt (α := Sum32) (p := fun i s => W.cells? 0 (x.add (i * 32)) 32 = some (sumC s)) each
    refine ⟨(List.range len).map F, ⟨by rw [flat_length sumC_len]; simp, by have : maxLen = 9223372036854775807 := rfl; omega, fun hp => ?_⟩, hl⟩
    obtain ⟨b, off, spot⟩ := x
    have hc0 := (World.cells?_some (hF 0 hp)).2.2 0 (by omega)
    have hspot : spot = none := by
      rw [List.getElem?_eq_getElem (by rw [sumC_len]; decide)] at hc0
      simpa [Addr.add] using World.cell?_spot hc0
    subst hspot
    refine ⟨b, off, rfl, fun j u hu => ?_⟩
    have hj : j < len * 32 := by
      have := (List.getElem?_eq_some_iff.1 hu).1
      rw [flat_length sumC_len] at this
      simpa using this
    have hk : j / 32 < len := by omega
    have hg := flat_get (f := sumC) sumC_len ((List.range len).map F) (j / 32) (j % 32) (F (j / 32)) (by rw [List.getElem?_map, List.getElem?_range hk]; rfl) (by omega)
    rw [show j / 32 * 32 + j % 32 = j from by omega, hu] at hg
    have h1 := (World.cells?_some (hF (j / 32) hk)).2.2 (j % 32) (by omega)
    rw [← hg] at h1
    rw [← h1]
    refine congrArg W.cell? ?_
    have : ∀ (n : Nat), (⟨b, off, none⟩ : Addr).add n = ⟨b, off + n, none⟩ := fun n => by unfold Addr.add; split <;> simp_all
    rw [this]
    have h2 : (⟨b, off + j / 32 * 32, none⟩ : Addr).add (j % 32) = ⟨b, off + j / 32 * 32 + j % 32, none⟩ := by unfold Addr.add; split <;> simp_all
    rw [h2]
    congr 1
    omega
end
section
open Go.ChangeShapes Go.WideShapes Go.ChangeAt Go.RowKit Go.Deep

/-- So many bytes in an array. -/
def Arr (N : Nat) : Type := {l : List UInt8 // l.length = N}
def arrC {N : Nat} (h : Arr N) : List Value := h.1.map byteV
theorem arrC_len {N : Nat} (h : Arr N) : (arrC h).length = N := by simp [arrC, h.2]
instance (N : Nat) : Inhabited (Arr N) := ⟨⟨List.replicate N 0, by simp⟩⟩
set_option maxRecDepth 100000 in
/-- An array of bytes that is known as its cells. -/
theorem arr_of_trod {H : Type} {enc : TypeId × Value → H} {W : World} {base : Nat} {sp : Nat → Bool} {held : Bool} {fuel : Nat} {cs : List Value} {y : DataW H × List MemPlace} {T N : Nat} (hu : Tryd.prog.underlying T = some (.array N 5)) (hT : Tryd.prog.cellsOf T = N)
    (hl : cs.length = N) (hf : DataW.trod enc Tryd.prog W base sp held fuel T cs = some y) : ∃ x : Arr N, cs = arrC x := by
  cases fuel with
  | zero => simp [DataW.trod] at hf
  | succ fuel =>
    rw [DataW.trod_step] at hf
    unfold DataW.trodStep at hf
    simp only [hu] at hf
    rw [if_pos (by rw [hT]; simpa using hl)] at hf
    obtain ⟨xs, hm, _⟩ := Option.map_eq_some_iff.1 hf
    have hb : ∀ i, i < N → ∃ b : UInt8, cs[i]? = some (byteV b) := fun i hi => by
      obtain ⟨y, _, hy⟩ := Lib.mapM_at hm i i (by simp [hi])
      obtain ⟨b, hc⟩ := byte_of_trod hy
      rw [cellsOf5, Nat.mul_one] at hc
      refine ⟨b, ?_⟩
      have := congrArg (·[0]?) hc
      simpa [List.getElem?_take, List.getElem?_drop] using this
    refine ⟨⟨(List.range N).map fun i => byteOf cs[i]?, by simp⟩, ?_⟩
    unfold arrC
    apply List.ext_getElem?
    intro i
    by_cases hi : i < N
    · obtain ⟨b, hbi⟩ := hb i hi
      rw [hbi]
      simp only [List.map_map, List.getElem?_map, List.getElem?_range hi, Option.map_some, Function.comp, hbi, byteOf_some]
    · rw [List.getElem?_eq_none (by omega), List.getElem?_eq_none (by simp; omega)]
set_option maxRecDepth 100000 in
/-- A slice of arrays of bytes, as it came in. -/
theorem open_arrs {H : Type} {enc : TypeId × Value → H} {W : World} {a : Option Addr} {len cap : Nat} {d : DataW H} {p : List MemPlace} {S T N : Nat} (hS : Tryd.prog.underlying S = some (.slice T)) (hu : Tryd.prog.underlying T = some (.array N 5)) (hT : Tryd.prog.cellsOf T = N) (hN : 0 < N)
    (h : DataW.Trod enc Tryd.prog W 0 (fun _ => true) true S (.slice a len cap) d p) : ∃ xs : List (Arr N), Rd W N a len (xs.flatMap arrC) ∧ len ≤ cap := by
  obtain ⟨fuel, hf⟩ := h
  rcases open_slice hS hf with ⟨hcs, _⟩ | ⟨x, l, c, m, n, D, Pl, hcs, _, hl, hm, hmm, _, hx⟩
  · simp [Value.cells] at hcs
    obtain ⟨rfl, rfl, rfl⟩ := hcs
    exact ⟨[], Rd.nil _ _ _, Nat.le_refl _⟩
  · simp [Value.cells] at hcs
    obtain ⟨rfl, rfl, rfl⟩ := hcs
    have hmc : m = cap := by rw [hmm]; simp
    rw [hT] at hx
    have each : ∀ i, i < len → ∃ s : Arr N, W.cells? 0 (x.add (i * N)) N = some (arrC s) := fun i hi => by
      obtain ⟨cs', h1, h2⟩ := hx i (by omega)
      obtain ⟨s, rfl⟩ := arr_of_trod hu hT (World.cells?_some h1).2.1 h2
      exact ⟨s, h1⟩
    obtain ⟨F, hF⟩ := choose_lt (α := Arr N) (p := fun i s => W.cells? 0 (x.add (i * N)) N = some (arrC s)) each
    refine ⟨(List.range len).map F, ⟨by rw [flat_length arrC_len]; simp, by have : maxLen = 9223372036854775807 := rfl; omega, fun hp => ?_⟩, hl⟩
    obtain ⟨b, off, spot⟩ := x
    have hc0 := (World.cells?_some (hF 0 hp)).2.2 0 hN
    have hspot : spot = none := by
      rw [List.getElem?_eq_getElem (by rw [arrC_len]; exact hN)] at hc0
      simpa [Addr.add] using World.cell?_spot hc0
    subst hspot
    refine ⟨b, off, rfl, fun j u hu => ?_⟩
    have hj : j < len * N := by
      have := (List.getElem?_eq_some_iff.1 hu).1
      rw [flat_length arrC_len] at this
      simpa using this
    have hk : j / N < len := Nat.div_lt_of_lt_mul (by rw [Nat.mul_comm]; exact hj)
    have hmod : j % N < N := Nat.mod_lt _ hN
    have hg := flat_get (f := arrC) arrC_len ((List.range len).map F) (j / N) (j % N) (F (j / N)) (by rw [List.getElem?_map, List.getElem?_range hk]; rfl) hmod
    rw [show j / N * N + j % N = j from by rw [Nat.mul_comm]; exact Nat.div_add_mod j N, hu] at hg
    have h1 := (World.cells?_some (hF (j / N) hk)).2.2 (j % N) hmod
    rw [← hg] at h1
    rw [← h1]
    refine congrArg W.cell? ?_
    have : ∀ (n : Nat), (⟨b, off, none⟩ : Addr).add n = ⟨b, off + n, none⟩ := fun n => by unfold Addr.add; split <;> simp_all
    rw [this]
    have h2 : (⟨b, off + j / N * N, none⟩ : Addr).add (j % N) = ⟨b, off + j / N * N + j % N, none⟩ := by unfold Addr.add; split <;> simp_all
    rw [h2]
    congr 1
    have := Nat.div_add_mod j N
    rw [Nat.mul_comm] at this
    omega
end
section
open Go.ChangeShapes Go.WideShapes Go.ChangeAt Go.RowKit Go.Deep
/-- Bytes as they came in, and how many there may be. -/
theorem open_bytes_sized {H : Type} {enc : TypeId × Value → H} {W : World} {a : Option Addr} {len cap : Nat} {d : DataW H} {p : List MemPlace}
    (h : DataW.Trod enc Tryd.prog W 0 (fun _ => true) true 22 (.slice a len cap) d p) : (∃ bs : List UInt8, Rd W 1 a len (bs.map byteV) ∧ len ≤ cap) ∧ (len = 0 ∨ ∃ el sp, d = .slice el sp ∧ len ≤ el.length + sp.length) := by
  refine ⟨open_bytes h, ?_⟩
  obtain ⟨fuel, hf⟩ := h
  rcases open_ints Tryd.underlying22 Tryd.underlying5 (by kernel_rfl) hf with ⟨hcs, _⟩ | ⟨x, l, c, zs, hcs, _, hl, hm, hz, hx, hcell, hwz⟩
  · simp [Value.cells] at hcs
    exact .inl hcs.2.1
  · simp [Value.cells] at hcs
    obtain ⟨rfl, rfl, rfl⟩ := hcs
    obtain ⟨rfl, _⟩ := Prod.mk.inj hx
    refine .inr ⟨_, _, rfl, ?_⟩
    have hz' : zs.length = cap := by simpa using hz
    simp [lits]
    omega
end
end Go.Proofs.YtfdhiilhjfbehaaDoor
