/- The law's hex: the bytes of a hash as text. -/
import Derived.Test.YtgblkaoioeceiaaDoorCheck
namespace Go.Proofs.YtgblkaoioeceiaaDoor
open Go.RowKit

def str (l : List UInt8) : ByteArray := ⟨l.toArray⟩
theorem str_inj {a b : List UInt8} (h : str a = str b) : a = b := by
  have := congrArg (fun x : ByteArray => x.data.toList) h
  simpa [str] using this
def dig (n : Nat) : UInt8 := if n < 10 then UInt8.ofNat (48 + n) else UInt8.ofNat (87 + n)
def hexL (l : List UInt8) : List UInt8 := l.flatMap fun b => [dig (b.toNat / 16), dig (b.toNat % 16)]
def digits : ByteArray := { data := #[48, 49, 50, 51, 52, 53, 54, 55, 56, 57, 97, 98, 99, 100, 101, 102] }
theorem dig_slice (q : Nat) (h : q < 16) : digits.extract q (q + 1) = str [dig q] := by
  have : q = 0 ∨ q = 1 ∨ q = 2 ∨ q = 3 ∨ q = 4 ∨ q = 5 ∨ q = 6 ∨ q = 7 ∨ q = 8 ∨ q = 9 ∨ q = 10 ∨ q = 11 ∨ q = 12 ∨ q = 13 ∨ q = 14 ∨ q = 15 := by omega
  rcases this with rfl | rfl | rfl | rfl | rfl | rfl | rfl | rfl | rfl | rfl | rfl | rfl | rfl | rfl | rfl | rfl <;> decide +kernel
theorem run_dig (q : Nat) (h : q < 16) (W : World) : (Instr.slice 9 (.string digits) (some (.int .u8 (q : Int))) (some (.int .u8 ((q : Int) + 1))) none).run Tryd.prog W = .ok (.string (str [dig q])) W := by
  have hs : digits.size = 16 := rfl
  rw [run_slice_string W 9 digits .u8 .u8 (q : Int) ((q : Int) + 1) (by kernel_rfl) (by omega) (by omega) (by rw [hs]; omega)]
  rw [show ((q : Int) + 1).toNat = q + 1 from by omega, Int.toNat_natCast, dig_slice q h]
theorem str_append (a b : List UInt8) : str a ++ str b = str (a ++ b) := by
  apply ByteArray.ext
  simp [str]
theorem hexL_length (l : List UInt8) : (hexL l).length = 2 * l.length := by
  induction l with
  | nil => rfl
  | cons a l ih => simp [hexL] at ih ⊢; omega

set_option maxRecDepth 100000 in
set_option maxHeartbeats 1000000 in
theorem Hex_any (x : Sum32) (w : World) : Calls Tryd.prog 27 #[sumV x.1] w fun e w' => e = .returned (.string (str (hexL x.1))) ∧ Below w.heap.size w w' := by
  obtain ⟨res, hres⟩ : ∃ r, hexL x.1 = r := ⟨_, rfl⟩
  rw [hres]
  have Hres := Lib.hid hres
  clear hres
  have hx32 : x.1.length = 32 := x.2
  go_enter Tryd.func27, Tryd.ntmps27
  unfold sumV
  go_upto_region 1 with fail
  obtain ⟨w1, hw1⟩ : ∃ w1, w1 = w.alloc (.cells (x.1.map byteV).toArray 32) := ⟨_, rfl⟩
  have hB1 : Below w.heap.size w w1 := by rw [hw1]; exact (Below.refl _ _).alloc (Nat.le_refl _) _
  have hX1 : Blk w1 w.heap.size 32 (sumC x).toArray := by rw [hw1]; exact Blk.new _ _ _
  rw [← hw1]
  have HB1 := Lib.hid hB1
  have HX1 := Lib.hid hX1
  clear hw1 hB1 hX1
  go_upto_region 2 with fail
  obtain ⟨D, hD⟩ : ∃ D, D = digits := ⟨_, rfl⟩
  have hD' : Value.string { data := #[48, 49, 50, 51, 52, 53, 54, 55, 56, 57, 97, 98, 99, 100, 101, 102] } = Value.string D := by rw [hD]; rfl
  rw [hD']
  have hdg : ∀ q : Nat, q < 16 → ∀ W, (Instr.slice 9 (.string D) (some (.int .u8 (q : Int))) (some (.int .u8 ((q : Int) + 1))) none).run Tryd.prog W = .ok (.string (str [dig q])) W := fun q hq W => by rw [hD]; exact run_dig q hq W
  have Hdg := Lib.hid hdg
  clear hD hD' hdg
  go_wp2_with fail
  go_loopw [4, 5] (fun s i wr => ∃ k : Nat, k ≤ 32 ∧ i = .int .i64 k ∧ s = .string (str (hexL (x.1.take k))) ∧ ∃ m, wr = w1.drewN m) (fun _ i _ => 32 - (intOf i).toNat)
  case atStart => exact ⟨0, by omega, rfl, rfl, 0, rfl⟩
  case round =>
    obtain ⟨k, hk, rfl, rfl, m, hwr⟩ := hrel
    have Hwr := Lib.hid hwr
    by_cases hlt : k < 32
    · have hkl : k < x.1.length := by omega
      have c0 : wr.cell? ⟨w.heap.size, k, none⟩ = some (.int .u8 ((x.1[k]).toNat : Int)) := by
        rw [hwr]
        show w1.cell? _ = _
        rw [HX1.out.cell k, List.getElem?_toArray]
        unfold sumC
        rw [List.getElem?_map, List.getElem?_eq_getElem hkl]
        rfl
      have htk : hexL (x.1.take (k + 1)) = hexL (x.1.take k) ++ [dig (x.1[k].toNat / 16), dig (x.1[k].toNat % 16)] := by
        rw [List.take_add_one, List.getElem?_eq_getElem hkl]
        unfold hexL
        rw [List.flatMap_append]
        rfl
      have hsl : (hexL (x.1.take k)).length = 2 * k := by rw [hexL_length, List.length_take]; omega
      generalize x.1[k] = v at *
      have hv := v.toNat_lt
      have hd1 := Hdg.out (v.toNat / 16) (by omega)
      have hd2 := Hdg.out (v.toNat % 16) (by omega)
      rw [show (((v.toNat / 16 : Nat)) : Int) = (v.toNat : Int) / 16 from by omega] at hd1
      rw [show (((v.toNat % 16 : Nat)) : Int) = (v.toNat : Int) % 16 from by omega] at hd2
      have z1 : (str (hexL (x.1.take k))).size = 2 * k := by unfold str; simp [ByteArray.size, hsl]
      have z2 : ∀ d, (str [d]).size = 1 := fun d => rfl
      have z3 : ∀ d e, (str [d, e]).size = 2 := fun d e => rfl
      have za : ∀ d e, str [d] ++ str [e] = str [d, e] := fun d e => str_append [d] [e]
      have Htk := Lib.hid htk
      clear htk hsl hwr
      generalize hexL (x.1.take k) = hs at *
      generalize dig (v.toNat / 16) = d1 at *
      generalize dig (v.toNat % 16) = d2 at *
      go_wp2_with fail
      go_quiet (fail)
      rw [str_append]
      clear hd1 hd2 z1 z2 z3 za c0
      go_wp2
      exact ⟨⟨k + 1, by omega, by go_num, by rw [Htk.out], nq + m, by rw [Hwr.out]; simp [World.drewN, Nat.add_comm, Nat.add_left_comm]⟩, by simp [intOf]; omega⟩
    · obtain rfl : k = 32 := by omega
      rw [List.take_of_length_le (by omega), Hres.out]
      have hB : Below w.heap.size w wr := by rw [hwr]; exact below_drewN HB1.out m
      have HB := Lib.hid hB
      clear hwr hB
      go_wp2
      go_ret
      exact ⟨rfl, HB.out⟩
end Go.Proofs.YtgblkaoioeceiaaDoor
