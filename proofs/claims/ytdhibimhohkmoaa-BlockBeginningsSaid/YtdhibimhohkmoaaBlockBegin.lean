/- BlockBeginnings: the blocks of a beginning. -/
import Derived.Test.YtdhibimhohkmoaaBlockSane
import Derived.Test.YtdhibimhohkmoaaBlockLaw2
import Derived.BigQuiet
import Derived.StillTailTactics
namespace Go.Proofs.Ytdhibimhohkmoaa
open Go.RowKit

theorem run_slice_to {P : Program} (T E : Nat) (A : Option Addr) (len cap j : Nat) (hT : P.underlying T = some (.slice E)) (hs : P.cellsOf E = 1) (hj : j ≤ cap) (w : World) :
    (Instr.slice T (.slice A len cap) none (some (.int .i64 (j : Int))) none).run P w = .ok (.slice A j cap) w := by
  have hE : P.elem T = E := by simp [Program.elem, hT]
  obtain ⟨iE, hi'⟩ : ∃ i, P.info? E = some i := by
    unfold Program.cellsOf at hs
    cases h : P.info? E with
    | none => simp [h] at hs
    | some i => exact ⟨i, rfl⟩
  rw [run_slice_h (P := P) w T A len cap (by rw [hE]; exact hT) .i64 (j : Int) (by omega) (by omega), hE, run_sizeOf w hi', hs]
  have hA : A.map (fun x => x.add 0) = A := by cases A with | none => rfl | some a => simp [Addr.add]
  simp only [Result.andThen_ok, sliced, Int.toNat_natCast, Nat.mul_one, Nat.sub_zero, hA, ite_self]
theorem Rd.take {w : World} {n k : Nat} {A : Option Addr} {bs : List UInt8} (h : Rd w 1 A n (bs.map byteV)) (hk : k ≤ n) : Rd w 1 A k ((bs.take k).map byteV) := by
  have hl := h.len1
  refine ⟨by simp; omega, by have := h.le; omega, fun hp => ?_⟩
  obtain ⟨b, off, e, hc⟩ := h.2.2 (by omega)
  refine ⟨b, off, e, fun j u hu => hc j u ?_⟩
  rw [List.map_take] at hu
  have := (List.getElem?_eq_some_iff.1 hu).1
  rw [List.getElem?_take, if_pos (by simp at this; omega)] at hu
  exact hu

set_option maxRecDepth 100000 in
set_option maxHeartbeats 2000000 in
theorem Beginnings_any (A : Option Addr) (len cap : Nat) (bs : List UInt8) (x y : UInt8) (n : Int) (w : World) (hr : Rd w 1 A len (bs.map byteV)) (hcap : len ≤ cap) (hn : 0 ≤ n ∧ n ≤ 65535) :
    Calls Try.prog 6 #[.slice A len cap, .agg #[.int .u8 (x.toNat : Int), .int .u8 (y.toNat : Int)], .int .u16 n] w fun e w' => e = .returned (.bool true) ∧ Below w.heap.size w w' := by
  have hl := hr.le
  have hle := hr.len1
  have hlo : 4 ≤ 4 + x.toNat % 8 := by omega
  have hlh : 4 + x.toNat % 8 ≤ 4 + x.toNat % 8 + y.toNat % 16 := by omega
  have hhi : 4 + x.toNat % 8 + y.toNat % 16 ≤ 4096 := by omega
  have hM := fun W => Made_any x y W
  generalize 4 + x.toNat % 8 = lo at *
  generalize lo + y.toNat % 16 = hi at *
  go_enter Try.func6, Try.ntmps6
  go_wp2_with fail
  have cB := Blk.new w 45 #[.int .u8 (x.toNat : Int), .int .u8 (y.toNat : Int)]
  have B0 : Below w.heap.size w (w.alloc (.cells #[.int .u8 (x.toNat : Int), .int .u8 (y.toNat : Int)] 45)) := (Below.refl _ w).alloc (Nat.le_refl _) _
  refine (sanity_any _).mono ?_
  rintro e w1 ⟨rfl, hb1⟩
  have cB := cB.below hb1 (by simp)
  have B1 := B0.trans (hb1.mono (by simp))
  have hr1 := hr.below B1
  have c0 := cB.cell 0
  have c1 := cB.cell 1
  simp only [List.getElem?_toArray, List.getElem?_cons_zero, List.getElem?_cons_succ] at c0 c1
  clear cB B0 hb1 hr
  go_wp2_with fail
  refine (hM _).mono ?_
  rintro e w2 ⟨rfl, hb2⟩
  have B2 := B1.trans (hb2.mono B1.size)
  have hr2 := hr1.below hb2
  clear B1 hr1 hb2 c0 c1 hM
  by_cases hbig : 400 < len
  · go_wp2_with fail
    go_ret
    exact ⟨rfl, B2.alloc B2.size _⟩
  · obtain ⟨k, hk1, hk2⟩ : ∃ k : Nat, n.tmod ((len : Int) + 1) = (k : Int) ∧ k ≤ len := by
      refine ⟨(n % ((len : Int) + 1)).toNat, ?_, ?_⟩
      · rw [Int.tmod_eq_emod_of_nonneg hn.1]
        have := Int.emod_nonneg n (b := (len : Int) + 1) (by omega)
        omega
      · have := Int.emod_lt_of_pos n (b := (len : Int) + 1) (by omega)
        have := Int.emod_nonneg n (b := (len : Int) + 1) (by omega)
        omega
    go_wp2_with fail
    have cL := Blk.new w2 27 #[.int .i64 lo, .int .i64 hi]
    have hb3 : Below w2.heap.size w2 (w2.alloc (.cells #[.int .i64 lo, .int .i64 hi] 27)) := (Below.refl _ _).alloc (Nat.le_refl _) _
    have hr3 := hr2.below hb3
    have B3 := B2.trans (hb3.mono B2.size)
    clear hb3 hr2 B2
    refine (blocks_good A len cap lo hi bs hlo hlh hhi _ hr3 (by omega)).mono ?_
    rintro e w4 ⟨A4, n4, c4, rfl, rs4, hb4⟩
    have cL := cL.below hb4 (by simp)
    have B4 := B3.trans (hb4.mono B3.size)
    have hr4 := hr3.below hb4
    have c0 := cL.cell 0
    have c1 := cL.cell 1
    simp only [List.getElem?_toArray, List.getElem?_cons_zero, List.getElem?_cons_succ] at c0 c1
    clear hr3 hb4 B3
    have hsl := run_slice_to (P := Try.prog) 22 5 A len cap k Try.underlying22 (by kernel_rfl) (by omega)
    go_wp2_with fail
    have hr5 := hr4.take hk2
    go_region_with (go_at_call 14; refine (blocks_good A k cap lo hi (bs.take k) hlo hlh hhi _ (by first | exact hr5 | exact hr5.drew | exact hr5.drewN _) (by omega)).mono ?_; rintro e w5 ⟨A5, n5, c5, rfl, rs5, hb5⟩)
    have hb45 : Below w4.heap.size w4 w5 := (Below.refl _ w4).drew.trans hb5
    have B5 := B4.trans (hb45.mono B4.size)
    have rs4 := rs4.below hb45
    have hB := blocks_beg bs lo hi k (by omega)
    have hC := chain_length (blocks_chain bs lo hi hlh (by omega))
    have l4 := rs4.lenf twoV_len (by omega)
    have l5 := rs5.lenf twoV_len (by omega)
    rw [List.length_map] at l4 l5
    have hlen := beg_len hB
    have hn4 : n4 ≤ 400 := by omega
    have hn5 : n5 ≤ n4 := by omega
    have HB := Lib.hid hB
    have H4 := Lib.hid l4
    have H5 := Lib.hid l5
    clear hr4 hr5 hb5 hb45 B4 c0 c1 cL hsl hB hC hlen l4 l5 hk1 hk2 hle hcap hlo hlh hhi
    generalize blocks bs lo hi = rs at *
    generalize blocks (bs.take k) lo hi = ss at *
    go_wp2_with fail
    go_loopw [14] (fun i wr => ∃ j : Nat, j ≤ n5 ∧ i = .int .i64 j ∧ ∃ m, wr = w5.drewN m) (fun i _ => n5 - (intOf i).toNat)
    case atStart => exact ⟨0, Nat.zero_le _, rfl, 0, (World.drewN_zero _).symm⟩
    case round =>
      obtain ⟨j, hj, rfl, m, rfl⟩ := hrel
      by_cases hlt : j < n5
      · obtain ⟨b4, off4, f4, t4, rfl, hx4, g1, g2⟩ := rs4.two_ (k := j) (by omega)
        obtain ⟨b5, off5, f5, t5, rfl, hx5, g3, g4⟩ := rs5.two_ hlt
        have hlt4 : j < n4 := by omega
        rw [List.getElem?_map] at hx4 hx5
        obtain ⟨r4, hr4, hy4⟩ := Option.map_eq_some_iff.1 hx4
        obtain ⟨r5, hr5, hy5⟩ := Option.map_eq_some_iff.1 hx5
        obtain ⟨e1, e2⟩ := beg_at HB.out hr5 hr4
        cases hy4
        cases hy5
        obtain ⟨p, q⟩ := r4
        obtain ⟨p', q'⟩ := r5
        obtain rfl : p' = p := e1
        replace g1 : w5.cell? ⟨b4, off4 + j * 2, none⟩ = some (.int .i64 (p' : Int)) := g1
        replace g2 : w5.cell? ⟨b4, off4 + j * 2 + 1, none⟩ = some (.int .i64 (q : Int)) := g2
        replace g3 : w5.cell? ⟨b5, off5 + j * 2, none⟩ = some (.int .i64 (p' : Int)) := g3
        replace g4 : w5.cell? ⟨b5, off5 + j * 2 + 1, none⟩ = some (.int .i64 (q' : Int)) := g4
        have q0 := range_guard
        have q1 := range_neq
        by_cases hn : j + 1 < n5
        · have e3 : q' = q := congrArg Prod.snd (e2 (by rw [H5.out]; exact hn))
          subst e3
          have q2 : twoNe (p' : Int) (q' : Int) (p' : Int) (q' : Int) = false := by simp [twoNe]
          have s4 : decide (j + 1 < n5) = true := by simp; omega
          have t4 : decide ((j : Int) + 1 < (n5 : Int)) = true := by simp; omega
          clear e2 hr4 hr5 hx4 hx5
          go_wp2
          go_quiet (fail)
          go_wp2
          exact ⟨⟨j + 1, by omega, by go_num, _, rfl⟩, by simp [intOf]; omega⟩
        · have s4 : decide (j + 1 < n5) = false := by simp; omega
          have t4 : decide ((j : Int) + 1 < (n5 : Int)) = false := by simp; omega
          clear e2 hr4 hr5 hx4 hx5
          go_wp2
          go_quiet (fail)
          go_wp2
          exact ⟨⟨j + 1, by omega, by go_num, _, rfl⟩, by simp [intOf]; omega⟩
      · obtain rfl : j = n5 := by omega
        go_wp2
        go_ret
        exact ⟨rfl, below_drewN B5 _⟩
end Go.Proofs.Ytdhibimhohkmoaa
