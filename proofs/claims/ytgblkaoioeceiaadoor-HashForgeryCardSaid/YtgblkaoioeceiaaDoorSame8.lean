/- The reference's SameBytes. -/
import Derived.Test.YtgblkaoioeceiaaDoorSet32
import Derived.Test.YtgblkaoioeceiaaDoorHex
import Derived.Laws.BytesArg
namespace Go.Proofs.YtgblkaoioeceiaaDoor
open Go.RowKit Go.Sort

theorem und22s : Tryd.prog.underlying 22 = some (.slice 5) := Tryd.underlying22
theorem und5s : Tryd.prog.underlying 5 = some (.int .u8) := by kernel_rfl
theorem und9s : Tryd.prog.underlying 9 = some .string := by kernel_rfl
theorem convert_bytes (A : Option Addr) (n c : Nat) (bs : List UInt8) (w : World) (hr : Rd w 1 A n (bs.map byteV)) : (convert 22 9 (.slice A n c)).run Tryd.prog w = .ok (.string (str bs)) w := by
  have hl := hr.len1
  by_cases hn : 0 < n
  · obtain ⟨b, off, rfl, hc⟩ := hr.2.2 hn
    rw [run_convert_bytes_arg w 22 5 und22s und5s b off n c (bs.map fun b => (b.toNat : Int)) (by rw [List.length_map, hl]) (fun i hi => ?_) 9 und9s]
    · congr 2
      unfold strOfNums str
      congr 2
      rw [List.map_map]
      conv => rhs; rw [← List.map_id bs]
      refine List.map_congr_left fun b _ => ?_
      simp
    · refine hc i _ ?_
      rw [List.getD_eq_getElem?_getD, List.getElem?_map, List.getElem?_map, List.getElem?_eq_getElem (by omega)]
      rfl
  · obtain rfl : n = 0 := by omega
    obtain rfl : bs = [] := List.eq_nil_of_length_eq_zero hl
    cases A with
    | none => exact run_convert_bytes_nil w 22 5 und22s und5s 0 c 9 und9s
    | some a =>
      rw [run_convert_bytes_string w 22 9 5 _ 0 c und22s und5s und9s, run_bytesToString w a 0 c [] (by simp [loadCells, loadCellsFrom])]
      rfl
theorem str_beq (a b : List UInt8) : ((str a).toList == (str b).toList) = decide (a = b) := by
  rw [ByteArray.toList_eq, ByteArray.toList_eq]
  simp only [str]
  exact Bool.eq_iff_iff.2 (by simp)

set_option maxHeartbeats 400000 in
theorem SameBytes_any (A B : Option Addr) (n m c d : Nat) (xs bs : List UInt8) (w : World) (ha : Rd w 1 A n (xs.map byteV)) (hb : Rd w 1 B m (bs.map byteV)) :
    Calls Tryd.prog 25 #[.slice A n c, .slice B m d] w fun e w' => e = .returned (.bool (decide (xs = bs))) ∧ ∃ k, w' = w.drewN k := by
  have h1 := convert_bytes A n c xs w ha
  have h2 := convert_bytes B m d bs w hb
  have h3 := str_beq xs bs
  go_enter Tryd.func25, Tryd.ntmps25
  go_wp2_with fail
  go_ret
  exact ⟨rfl, 0, rfl⟩
end Go.Proofs.YtgblkaoioeceiaaDoor
