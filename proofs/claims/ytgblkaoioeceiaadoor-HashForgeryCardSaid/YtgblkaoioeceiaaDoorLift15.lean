/- What a law's walk is told of its arguments and of the package variables, as they came in. -/
import Derived.Test.YtgblkaoioeceiaaDoorLeaves
import Derived.Test.YtgblkaoioeceiaaDoorLift
import Derived.Test.YtgblkaoioeceiaaDoorCards
import Derived.Test.YtgblkaoioeceiaaDoorTie
import Derived.ChangeVars
import Derived.JoinedOf
import Derived.LaidLaws
import Derived.LaidHandle
import Derived.Lib.LaidTab
import Derived.SevenTiedAt
import Derived.Stop.LaidErr
import Derived.Stop.Joined
import Derived.ChangeSame
import Derived.Test.YtgblkaoioeceiaaDoorRun
namespace Go.Proofs.YtgblkaoioeceiaaDoor
open Go.ChangeShapes Go.WideShapes Go.ChangeAt Go.RowKit

theorem gI : Tryd.prog.globalNamed "inlay/hash.initial" = some 0 := by kernel_rfl
theorem gIType : (Tryd.prog.globals[0]?).map (·.type) = some 56 := by kernel_rfl
theorem gR : Tryd.prog.globalNamed "inlay/hash.rounds" = some 1 := by kernel_rfl
theorem gRType : (Tryd.prog.globals[1]?).map (·.type) = some 71 := by kernel_rfl
theorem cells55 : Tryd.prog.cellsOf 55 = 1 := by kernel_rfl
theorem cells56 : Tryd.prog.cellsOf 56 = 8 := by kernel_rfl
theorem cells71 : Tryd.prog.cellsOf 71 = 64 := by kernel_rfl
def laidBoth : List (String × DataW Unit) := [("inlay/hash.initial", Rows.laid_inlay_hash_initial), ("inlay/hash.rounds", Rows.laid_inlay_hash_rounds)]
def initZ : List Int := [1779033703, 3144134277, 1013904242, 2773480762, 1359893119, 2600822924, 528734635, 1541459225]
def roundsZ : List Int := roundsL.map fun x => (x.toNat : Int)
theorem laidI {H : Type} : (Rows.laid_inlay_hash_initial : DataW H) = Lib.tabData .u32 initZ := rfl
theorem laidR {H : Type} : (Rows.laid_inlay_hash_rounds : DataW H) = Lib.tabData .u32 roundsZ := by kernel_rfl

theorem globs_of_laid {W : World} (h : laidMetH Tryd.prog laidBoth W) : Globs W := by
  have h1 : laidMet Tryd.prog laidBoth W := h
  unfold laidBoth at h1
  rw [laidI, laidR] at h1
  have t1 := Lib.tabIs_of_head gI gIType und56 und55 cells55 cells56 h1
  have t2 := Lib.tabIs_of_head gR gRType und71 und55 cells55 cells71 (laidMet.tail h1)
  have c1 := fun i hi => t1.cell gI i hi
  have c2 := fun i hi => t2.cell gR i hi
  refine ⟨c1 0 (by decide), c1 1 (by decide), c1 2 (by decide), c1 3 (by decide), c1 4 (by decide), c1 5 (by decide), c1 6 (by decide), c1 7 (by decide), fun j hj => ?_⟩
  have := c2 j (by show j < roundsZ.length; simp [roundsZ]; exact hj)
  rw [this]
  congr 2
  unfold roundsZ
  rw [List.getD_eq_getElem?_getD, List.getElem?_map, List.getD_eq_getElem?_getD, List.getElem?_eq_getElem (by exact hj)]
  rfl

/-- The settled world, the two variables holding what the text lays: the witness. -/
noncomputable def laidWorld (os : Os) : World :=
  let w0 := World.holding Tryd.prog os ⟨#[], #[], []⟩
  { w0 with heap := (w0.heap.modify 0 fun
      | .cells _ t frozen => .cells (initZ.map (Value.int .u32)).toArray t frozen
      | o => o).modify 1 fun
      | .cells _ t frozen => .cells (roundsZ.map (Value.int .u32)).toArray t frozen
      | o => o }
theorem laidWorld_met (os : Os) (args : Array Value) : laidMetH Tryd.prog laidBoth ((laidWorld os).forCall (fun _ _ => 0) ⟨#[], args, []⟩).memory :=
  laidMetH_of_parts (laidMet_of_run' 8 (by kernel_rfl) (by kernel_rfl)) (by kernel_rfl)

theorem underlying5' : Tryd.prog.underlying 5 = some (.int .u8) := by kernel_rfl
theorem cellsOf5 : Tryd.prog.cellsOf 5 = 1 := by kernel_rfl
theorem cellsOf32 : Tryd.prog.cellsOf 32 = 32 := by kernel_rfl
theorem byte_of_trod {H : Type} {enc : TypeId × Value → H} {W : World} {base : Nat} {sp : Nat → Bool} {held : Bool} {fuel : Nat} {cs : List Value} {y : DataW H × List MemPlace}
    (h : DataW.trod enc Tryd.prog W base sp held fuel 5 cs = some y) : ∃ b : UInt8, cs = [byteV b] := by
  obtain ⟨z, hc, _, hw⟩ := DataW.trod_int underlying5' h
  obtain ⟨b, rfl⟩ := u8_of (bounds_u8 hw)
  exact ⟨b, hc⟩
def byteOf : Option Value → UInt8
  | some (.int _ z) => UInt8.ofNat z.toNat
  | _ => 0
theorem byteOf_some (b : UInt8) : byteOf (some (byteV b)) = b := by
  show UInt8.ofNat ((b.toNat : Int)).toNat = b
  rw [Int.toNat_natCast]
  simp
theorem params_ok {l : Array TypeId} (h : (l.all fun t => !Tryd.prog.wantsStandIn t) = true) (j : Nat) (t : TypeId) (ht : l[j]? = some t) : Tryd.prog.wantsStandIn t = false := by
  have := Array.all_eq_true'.1 h t (Array.mem_of_getElem? ht)
  simpa using this
/-- A hash as it came in. -/
theorem open_sum {H : Type} {enc : TypeId × Value → H} {W : World} {base : Nat} {sp : Nat → Bool} {held : Bool} {r : Reach} {b0 : Nat} {v : Value} {d : DataW H} {ps : List MemPlace} (hval : Value.okWide Tryd.prog W r b0 32 v) (hd : DataW.Trod enc Tryd.prog W base sp held 32 v d ps) :
    ∃ x : Sum32, v = sumV x.1 := by
  have hu := und32
  simp only [Value.okWide, hu] at hval
  obtain ⟨cs, rfl, h2, _⟩ := hval
  rw [cellsOf32] at h2
  obtain ⟨fuel, hf⟩ := hd
  cases fuel with
  | zero => simp [DataW.trod] at hf
  | succ fuel =>
    rw [DataW.trod_step] at hf
    unfold DataW.trodStep at hf
    simp only [hu, Value.cells] at hf
    rw [if_pos (by rw [cellsOf32]; simpa using h2)] at hf
    obtain ⟨xs, hm, _⟩ := Option.map_eq_some_iff.1 hf
    have hb : ∀ i, i < 32 → ∃ b : UInt8, cs.toList[i]? = some (byteV b) := fun i hi => by
      obtain ⟨y, _, hy⟩ := Lib.mapM_at hm i i (by simp [hi])
      obtain ⟨b, hc⟩ := byte_of_trod hy
      rw [cellsOf5, Nat.mul_one] at hc
      refine ⟨b, ?_⟩
      have := congrArg (·[0]?) hc
      simpa [List.getElem?_take, List.getElem?_drop] using this
    refine ⟨⟨(List.range 32).map fun i => byteOf cs.toList[i]?, by simp⟩, ?_⟩
    unfold sumV
    congr 1
    apply Array.ext_getElem?
    intro i
    by_cases hi : i < 32
    · obtain ⟨b, hbi⟩ := hb i hi
      have h3 : cs[i]? = some (byteV b) := by rw [← hbi]; simp
      rw [h3]
      simp only [List.map_map, List.getElem?_toArray, List.getElem?_map, List.getElem?_range hi, Option.map_some, Function.comp, hbi, byteOf_some]
    · rw [Array.getElem?_eq_none (by omega), List.getElem?_toArray, List.getElem?_eq_none (by simp; omega)]
end Go.Proofs.YtgblkaoioeceiaaDoor
