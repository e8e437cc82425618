/- The numbers of the rounds, read as an array: an element at a place. -/
import Derived.Test.YtgblkaoioeceiaaDoorWords
import Derived.Test.YtgblkaoioeceiaaDoorBase
namespace Go.Proofs.YtgblkaoioeceiaaDoor
open Go.RowKit

theorem und71 : Tryd.prog.underlying 71 = some (.array 64 55) := by kernel_rfl
theorem und56 : Tryd.prog.underlying 56 = some (.array 8 55) := by kernel_rfl
theorem und55 : Tryd.prog.underlying 55 = some (.int .u32) := by kernel_rfl
theorem size55 : Tryd.prog.cellsOf 55 = 1 := by kernel_rfl
theorem size71 : (Tryd.prog.info? 71).map (·.size) = some 64 := by kernel_rfl
theorem run_index_row (xs : List Int) (T n : Nat) (hT : Tryd.prog.underlying T = some (.array n 55)) (hl : xs.length = n) (t : Nat) (x : Int) (hx : xs[t]? = some x) (w : World) :
    (Instr.index T (.agg (xs.map (Value.int .u32)).toArray) (.int .i64 (t : Int))).run Tryd.prog w = .ok (.int .u32 x) w := by
  have ht : t < n := by rw [← hl]; exact (List.getElem?_eq_some_iff.1 hx).1
  obtain ⟨i, hi⟩ := info_of_underlying und55
  have hs : i.size = 1 := by have := size55; unfold Program.cellsOf at this; rw [hi] at this; simpa using this
  unfold Instr.index
  simp only [asIntOf, Sem.run_bind, Sem.run_pure, Result.andThen_ok, run_underlying hT]
  rw [if_pos ⟨by omega, by omega⟩]
  simp only [Sem.run_bind, run_sizeOf w hi, Result.andThen_ok, size55, Int.toNat_natCast, Nat.mul_one]
  exact run_part_int w 55 .u32 und55 xs t x hx
end Go.Proofs.YtgblkaoioeceiaaDoor
