/- The fixed examples of chapter 05's statements hold. -/
import Derived.Test.YtdhibimhohkmoaaBlockRef3
import Derived.Test.YtdhibimhohkmoaaBlockMatch
import Derived.Deep.RegionWith
import Derived.Deep.RegionHeld3
namespace Go.Proofs.Ytdhibimhohkmoaa
open Go.RowKit

theorem Rd.lit (w : World) (t : TypeId) (sz n : Nat) (cs : List Value) (h : cs.length = n * sz) (hn : n ≤ 9223372036854775807) : Rd (w.alloc (.cells cs.toArray t)) sz (some ⟨w.heap.size, 0, none⟩) n cs :=
  ⟨h, hn, fun _ => ⟨w.heap.size, 0, rfl, fun j u hu => by rw [(Blk.new w t cs.toArray).cell (0 + j), Nat.zero_add]; simpa using hu⟩⟩
theorem below_drewN {B : Nat} {a w : World} (h : Below B a w) (n : Nat) : Below B a (w.drewN n) := ⟨h.os, h.tape, h.output, h.size, h.block⟩

theorem mk10 (w : World) : (Instr.makeSlice 22 (.int .i64 10) (.int .i64 10)).run Try.prog w = .ok (.slice (some ⟨w.heap.size, 0, none⟩) 10 10) (w.alloc (.cells #[.int .u8 0, .int .u8 0, .int .u8 0, .int .u8 0, .int .u8 0, .int .u8 0, .int .u8 0, .int .u8 0, .int .u8 0, .int .u8 0] 5)) := by kernel_rfl
theorem mk4 (w : World) : (Instr.makeSlice 22 (.int .i64 4) (.int .i64 4)).run Try.prog w = .ok (.slice (some ⟨w.heap.size, 0, none⟩) 4 4) (w.alloc (.cells #[.int .u8 0, .int .u8 0, .int .u8 0, .int .u8 0] 5)) := by kernel_rfl
theorem mk8 (w : World) : (Instr.makeSlice 22 (.int .i64 8) (.int .i64 8)).run Try.prog w = .ok (.slice (some ⟨w.heap.size, 0, none⟩) 8 8) (w.alloc (.cells #[.int .u8 0, .int .u8 0, .int .u8 0, .int .u8 0, .int .u8 0, .int .u8 0, .int .u8 0, .int .u8 0] 5)) := by kernel_rfl

theorem rdA1 (w : World) : Rd ((w.alloc (.cells #[.int .u8 0, .int .u8 0, .int .u8 0, .int .u8 0] 5)).alloc (.cells #[.int .u8 0, .int .u8 0, .int .u8 0, .int .u8 0, .int .u8 0, .int .u8 0, .int .u8 0, .int .u8 0] 5)) 1 (some ⟨w.heap.size, 0, none⟩) 4 (([0, 0, 0, 0] : List UInt8).map byteV) := (Rd.lit w 5 1 4 (([0, 0, 0, 0] : List UInt8).map byteV) rfl (by omega)).alloc _
theorem rdB1 (w : World) : Rd ((w.alloc (.cells #[.int .u8 0, .int .u8 0, .int .u8 0, .int .u8 0] 5)).alloc (.cells #[.int .u8 0, .int .u8 0, .int .u8 0, .int .u8 0, .int .u8 0, .int .u8 0, .int .u8 0, .int .u8 0] 5)) 1 (some ⟨w.heap.size + 1, 0, none⟩) 8 (([0, 0, 0, 0, 0, 0, 0, 0] : List UInt8).map byteV) := by
  have h := Rd.lit (w.alloc (.cells #[.int .u8 0, .int .u8 0, .int .u8 0, .int .u8 0] 5)) 5 1 8 (([0, 0, 0, 0, 0, 0, 0, 0] : List UInt8).map byteV) rfl (by omega)
  rw [World.size_alloc] at h
  exact h
theorem rdB2 (w : World) : Rd ((w.alloc (.cells #[.int .u8 0, .int .u8 0, .int .u8 0, .int .u8 0, .int .u8 0, .int .u8 0, .int .u8 0, .int .u8 0] 5)).alloc (.cells #[.int .u8 0, .int .u8 0, .int .u8 0, .int .u8 0] 5)) 1 (some ⟨w.heap.size, 0, none⟩) 8 (([0, 0, 0, 0, 0, 0, 0, 0] : List UInt8).map byteV) := (Rd.lit w 5 1 8 (([0, 0, 0, 0, 0, 0, 0, 0] : List UInt8).map byteV) rfl (by omega)).alloc _
theorem rdA2 (w : World) : Rd ((w.alloc (.cells #[.int .u8 0, .int .u8 0, .int .u8 0, .int .u8 0, .int .u8 0, .int .u8 0, .int .u8 0, .int .u8 0] 5)).alloc (.cells #[.int .u8 0, .int .u8 0, .int .u8 0, .int .u8 0] 5)) 1 (some ⟨w.heap.size + 1, 0, none⟩) 4 (([0, 0, 0, 0] : List UInt8).map byteV) := by
  have h := Rd.lit (w.alloc (.cells #[.int .u8 0, .int .u8 0, .int .u8 0, .int .u8 0, .int .u8 0, .int .u8 0, .int .u8 0, .int .u8 0] 5)) 5 1 4 (([0, 0, 0, 0] : List UInt8).map byteV) rfl (by omega)
  rw [World.size_alloc] at h
  exact h

theorem ex1 : cutsB [0, 0, 0, 0, 0, 0, 0, 0, 0, 0] 4 8 = [4, 8] := by decide +kernel
theorem ex2 : cutsB [1, 1, 1, 1, 1, 1, 1, 1, 1, 1] 4 8 = [8] := by decide +kernel
theorem ex3 : (blocks [1, 2, 3, 10, 9] 4 8).map natPair = [(0, 4), (4, 5)] := by decide +kernel
theorem ex4 : (matchB [0, 0, 0, 0] [0, 0, 0, 0, 0, 0, 0, 0] 4 8).map natPair = [(0, 0), (0, 1)] := by decide +kernel
theorem ex5 : (blocks [] 4 4).map natPair = [] := by decide +kernel

theorem lit48 (w : World) (A : Option Addr) (n c : Nat) (h : Rd w 1 A n (([4, 8] : List Int).map intV)) :
    Calls Try.prog 18 #[.slice A n c, .slice (some ⟨w.heap.size, 0, none⟩) 2 2] (w.alloc (.cells #[.int .i64 4, .int .i64 8] 3)) fun e w' => e = .returned (.bool true) ∧ Below w.heap.size w w' := by
  refine (Ints_any A (some ⟨w.heap.size, 0, none⟩) n 2 c 2 [4, 8] [4, 8] _ (h.alloc _) (Rd.lit w 3 1 2 [.int .i64 4, .int .i64 8] rfl (by omega))).mono ?_
  rintro e w' ⟨rfl, k, rfl⟩
  exact ⟨rfl, below_drewN ((Below.refl _ _).alloc (Nat.le_refl _) _) _⟩
theorem lit8 (w : World) (A : Option Addr) (n c : Nat) (h : Rd w 1 A n (([8] : List Int).map intV)) :
    Calls Try.prog 18 #[.slice A n c, .slice (some ⟨w.heap.size, 0, none⟩) 1 1] (w.alloc (.cells #[.int .i64 8] 3)) fun e w' => e = .returned (.bool true) ∧ Below w.heap.size w w' := by
  refine (Ints_any A (some ⟨w.heap.size, 0, none⟩) n 1 c 1 [8] [8] _ (h.alloc _) (Rd.lit w 3 1 1 [.int .i64 8] rfl (by omega))).mono ?_
  rintro e w' ⟨rfl, k, rfl⟩
  exact ⟨rfl, below_drewN ((Below.refl _ _).alloc (Nat.le_refl _) _) _⟩
theorem litR (w : World) (A : Option Addr) (n c : Nat) (h : Rd w 2 A n (([(0, 4), (4, 5)] : List (Int × Int)).flatMap twoV)) :
    Calls Try.prog 19 #[.slice A n c, .slice (some ⟨w.heap.size, 0, none⟩) 2 2] (w.alloc (.cells #[.int .i64 0, .int .i64 4, .int .i64 4, .int .i64 5] 48)) fun e w' => e = .returned (.bool true) ∧ Below w.heap.size w w' := by
  refine (SameRanges_any A (some ⟨w.heap.size, 0, none⟩) n 2 c 2 [(0, 4), (4, 5)] [(0, 4), (4, 5)] _ (h.alloc _) (Rd.lit w 48 2 2 [.int .i64 0, .int .i64 4, .int .i64 4, .int .i64 5] rfl (by omega))).mono ?_
  rintro e w' ⟨rfl, k, rfl⟩
  exact ⟨rfl, below_drewN ((Below.refl _ _).alloc (Nat.le_refl _) _) _⟩
theorem litP (w : World) (A : Option Addr) (n c : Nat) (h : Rd w 2 A n (([(0, 0), (0, 1)] : List (Int × Int)).flatMap twoV)) :
    Calls Try.prog 20 #[.slice A n c, .slice (some ⟨w.heap.size, 0, none⟩) 2 2] (w.alloc (.cells #[.int .i64 0, .int .i64 0, .int .i64 0, .int .i64 1] 26)) fun e w' => e = .returned (.bool true) ∧ Below w.heap.size w w' := by
  refine (SamePairs_any A (some ⟨w.heap.size, 0, none⟩) n 2 c 2 [(0, 0), (0, 1)] [(0, 0), (0, 1)] _ (h.alloc _) (Rd.lit w 26 2 2 [.int .i64 0, .int .i64 0, .int .i64 0, .int .i64 1] rfl (by omega))).mono ?_
  rintro e w' ⟨rfl, k, rfl⟩
  exact ⟨rfl, below_drewN ((Below.refl _ _).alloc (Nat.le_refl _) _) _⟩

set_option maxRecDepth 100000 in
set_option maxHeartbeats 1500000 in
theorem sanity_any (w : World) : Calls Try.prog 11 #[] w fun e w' => e = .returned (.bool true) ∧ Below w.heap.size w w' := by
  have m10 := mk10
  have m4 := mk4
  have m8 := mk8
  go_enter Try.func11, Try.ntmps11
  go_wp2_with fail
  have r1 : Rd (w.alloc (.cells #[.int .u8 1, .int .u8 1, .int .u8 1, .int .u8 1, .int .u8 1, .int .u8 1, .int .u8 1, .int .u8 1, .int .u8 1, .int .u8 1] 5)) 1 (some ⟨w.heap.size, 0, none⟩) 10 (([1, 1, 1, 1, 1, 1, 1, 1, 1, 1] : List UInt8).map byteV) := Rd.lit w 5 1 10 (([1, 1, 1, 1, 1, 1, 1, 1, 1, 1] : List UInt8).map byteV) rfl (by omega)
  obtain ⟨w1, hw1⟩ : ∃ w1, w.alloc (.cells #[.int .u8 1, .int .u8 1, .int .u8 1, .int .u8 1, .int .u8 1, .int .u8 1, .int .u8 1, .int .u8 1, .int .u8 1, .int .u8 1] 5) = w1 := ⟨_, rfl⟩
  have B1 : Below w.heap.size w w1 := by rw [← hw1]; exact (Below.refl _ _).alloc (Nat.le_refl _) _
  have r2 : Rd (w1.alloc (.cells #[.int .u8 0, .int .u8 0, .int .u8 0, .int .u8 0, .int .u8 0, .int .u8 0, .int .u8 0, .int .u8 0, .int .u8 0, .int .u8 0] 5)) 1 (some ⟨w1.heap.size, 0, none⟩) 10 (([0, 0, 0, 0, 0, 0, 0, 0, 0, 0] : List UInt8).map byteV) := Rd.lit w1 5 1 10 (([0, 0, 0, 0, 0, 0, 0, 0, 0, 0] : List UInt8).map byteV) rfl (by omega)
  rw [hw1] at r1
  have hs1 : w.heap.size + 1 = w1.heap.size := by rw [← hw1]; simp
  rw [hw1, hs1]
  clear hw1 hs1
  refine (callsIn_wide.1 (Cuts_in 3 (by omega) _ 10 10 4 8 [0, 0, 0, 0, 0, 0, 0, 0, 0, 0] (by omega) (by omega) (by omega) _ r2 (by omega))).mono ?_
  rw [ex1]
  rintro e w2 ⟨A2, n2, c2, rfl, ra, hb2⟩
  have B2 := B1.trans (((Below.refl w1.heap.size w1).alloc (Nat.le_refl _) (.cells #[.int .u8 0, .int .u8 0, .int .u8 0, .int .u8 0, .int .u8 0, .int .u8 0, .int .u8 0, .int .u8 0, .int .u8 0, .int .u8 0] 5)).trans (hb2.mono (by simp)) |>.mono B1.size)
  have r12 := r1.below ((((Below.refl w1.heap.size w1).alloc (Nat.le_refl _) (.cells #[.int .u8 0, .int .u8 0, .int .u8 0, .int .u8 0, .int .u8 0, .int .u8 0, .int .u8 0, .int .u8 0, .int .u8 0, .int .u8 0] 5)).trans (hb2.mono (by simp))))
  clear r1 r2 hb2 B1
  go_wp2_with fail
  refine (callsIn_wide.1 (Cuts_in 3 (by omega) _ 10 10 4 8 [1, 1, 1, 1, 1, 1, 1, 1, 1, 1] (by omega) (by omega) (by omega) _ r12 (by omega))).mono ?_
  rw [ex2]
  rintro e w3 ⟨A3, n3, c3, rfl, rb, hb3⟩
  have B3 := B2.trans (hb3.mono B2.size)
  have r13 := r12.below hb3
  have ra := ra.below hb3
  clear r12 hb3 B2
  go_wp2_with fail
  have r4 : Rd (w3.alloc (.cells #[.int .u8 1, .int .u8 2, .int .u8 3, .int .u8 10, .int .u8 9] 5)) 1 (some ⟨w3.heap.size, 0, none⟩) 5 (([1, 2, 3, 10, 9] : List UInt8).map byteV) := Rd.lit w3 5 1 5 (([1, 2, 3, 10, 9] : List UInt8).map byteV) rfl (by omega)
  refine (callsIn_wide.1 (Blocks_in 3 (by omega) _ 5 5 4 8 [1, 2, 3, 10, 9] (by omega) (by omega) (by omega) _ r4 (by omega))).mono ?_
  rw [ex3]
  rintro e w4 ⟨A4, n4, c4, rfl, rc, hb4⟩
  have hb34 : Below w3.heap.size w3 w4 := ((Below.refl w3.heap.size w3).alloc (Nat.le_refl _) _).trans (hb4.mono (by simp))
  have B4 := B3.trans (hb34.mono B3.size)
  have r14 := r13.below hb34
  have ra := ra.below hb34
  have rb := rb.below hb34
  clear r4 r13 hb4 hb34 B3
  go_wp2_with fail
  go_region_with (go_at_call 16; refine (callsIn_wide.1 (Match_in 3 (by omega) _ _ 4 8 4 8 4 8 [0, 0, 0, 0] [0, 0, 0, 0, 0, 0, 0, 0] (by omega) (by omega) (by omega) _ (by first | exact rdA1 _ | exact rdA2 _ | exact (rdA1 _).drew | exact (rdA2 _).drew) (by first | exact rdB1 _ | exact rdB2 _ | exact (rdB1 _).drew | exact (rdB2 _).drew) (by omega) (by omega) (by omega) (by omega))).mono ?_; rw [ex4]; rintro e w5 ⟨A5, n5, c5, rfl, rd, hb5⟩)
  all_goals
    have hb45 : Below w4.heap.size w4 w5 := by
      refine Below.trans ?_ (hb5.mono ?_)
      · first | exact ((((Below.refl _ w4).alloc (Nat.le_refl _) _).alloc (by simp) _)) | exact ((((Below.refl _ w4).alloc (Nat.le_refl _) _).alloc (by simp) _)).drew
      · simp
        try omega
    have B5 := B4.trans (hb45.mono B4.size)
    have r15 := r14.below hb45
    have ra := ra.below hb45
    have rb := rb.below hb45
    have rc := rc.below hb45
    clear r14 hb5 hb45 B4
    go_wp2_with fail
    refine (Cuts_bad _ 10 10 3 8 (by omega) _).mono ?_
    rintro e w6 ⟨rfl, hb6⟩
    have B6 := B5.trans (hb6.mono B5.size)
    have r16 := r15.below hb6
    have ra := ra.below hb6
    have rb := rb.below hb6
    have rc := rc.below hb6
    have rd := rd.below hb6
    clear r15 hb6 B5
    go_wp2_with fail
    refine (Cuts_bad _ 10 10 8 4 (by omega) _).mono ?_
    rintro e w7 ⟨rfl, hb7⟩
    have B7 := B6.trans (hb7.mono B6.size)
    have ra := ra.below hb7
    have rb := rb.below hb7
    have rc := rc.below hb7
    have rd := rd.below hb7
    clear r16 hb7 B6
    go_wp2_with fail
    refine (callsIn_wide.1 (Blocks_in 3 (by omega) none 0 0 4 4 [] (by omega) (by omega) (by omega) _ (Rd.nil _ _ _) (by omega))).mono ?_
    rw [ex5]
    rintro e w8 ⟨A8, n8, c8, rfl, re, hb8⟩
    have B8 := B7.trans (hb8.mono B7.size)
    have ra := ra.below hb8
    have rb := rb.below hb8
    have rc := rc.below hb8
    have rd := rd.below hb8
    have hn8 := re.lenf twoV_len (by omega)
    simp only [List.length_nil] at hn8
    subst hn8
    clear hb8 B7 re
    go_wp2_with fail
    refine (lit48 w8 A2 n2 c2 ra).mono ?_
    rintro e w9 ⟨rfl, hb9⟩
    have rb := rb.below hb9
    have rc := rc.below hb9
    have rd := rd.below hb9
    have B9 := B8.trans (hb9.mono B8.size)
    clear ra hb9 B8
    go_wp2_with fail
    refine (lit8 w9 A3 n3 c3 rb).mono ?_
    rintro e w10 ⟨rfl, hb10⟩
    have rc := rc.below hb10
    have rd := rd.below hb10
    have B10 := B9.trans (hb10.mono B9.size)
    clear rb hb10 B9
    go_wp2_with fail
    refine (litR w10 A4 n4 c4 rc).mono ?_
    rintro e w11 ⟨rfl, hb11⟩
    have rd := rd.below hb11
    have B11 := B10.trans (hb11.mono B10.size)
    clear rc hb11 B10
    go_wp2_with fail
    refine (litP w11 A5 n5 c5 rd).mono ?_
    rintro e w12 ⟨rfl, hb12⟩
    have B12 := B11.trans (hb12.mono B11.size)
    clear rd hb12 B11
    go_wp2_with fail
    go_ret
    exact ⟨rfl, B12⟩

end Go.Proofs.Ytdhibimhohkmoaa
