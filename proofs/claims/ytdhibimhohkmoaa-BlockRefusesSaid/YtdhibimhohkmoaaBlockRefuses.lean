/- BlockRefuses: exactly the limits with 4 <= least <= most <= 4096 are accepted. -/
import Derived.Test.YtdhibimhohkmoaaBlockSane
import Derived.BigQuiet
namespace Go.Proofs.Ytdhibimhohkmoaa
open Go.RowKit

set_option maxRecDepth 100000 in
set_option maxHeartbeats 2000000 in
theorem Refuses_any (A : Option Addr) (len cap : Nat) (bs : List UInt8) (x y : Int) (w : World) (hr : Rd w 1 A len (bs.map byteV)) (hc : len ≤ cap) (hx : -32768 ≤ x ∧ x ≤ 32767) (hy : -32768 ≤ y ∧ y ≤ 32767) :
    Calls Try.prog 10 #[.slice A len cap, .agg #[.int .i16 x, .int .i16 y]] w fun e w' => e = .returned (.bool true) ∧ Below w.heap.size w w' := by
  have hl := hr.le
  go_enter Try.func10, Try.ntmps10
  go_wp2_with fail
  have cB := Blk.new w 24 #[.int .i16 x, .int .i16 y]
  have hb0 : Below w.heap.size w (w.alloc (.cells #[.int .i16 x, .int .i16 y] 24)) := (Below.refl _ w).alloc (Nat.le_refl _) _
  refine (sanity_any _).mono ?_
  rintro e w1 ⟨rfl, hb1⟩
  have cB := cB.below hb1 (by simp)
  have hr1 := hr.below (hb0.trans (hb1.mono (by simp)))
  go_wp2_with fail
  · go_ret
    exact ⟨rfl, hb0.trans (hb1.mono (by simp))⟩
  · have c0 := cB.cell 0
    have c1 := cB.cell 1
    simp only [List.getElem?_toArray, List.getElem?_cons_zero, List.getElem?_cons_succ] at c0 c1
    have B1 := hb0.trans (hb1.mono (by simp))
    clear cB hb0 hb1 hr
    go_quiet (fail)
    go_wp2_with fail
    obtain ⟨w2, hw2⟩ : ∃ w2, w1.drewN nq = w2 := ⟨_, rfl⟩
    have hr2 : Rd w2 1 A len (bs.map byteV) := by rw [← hw2]; exact hr1.drewN nq
    have B2 : Below w.heap.size w w2 := by rw [← hw2]; exact below_drewN B1 nq
    rw [hw2]
    clear hw2 hr1 c0 c1 B1
    · obtain ⟨lo, hlo⟩ : ∃ lo : Nat, x = (lo : Int) := ⟨x.toNat, by omega⟩
      obtain ⟨hi, hhi⟩ : ∃ hi : Nat, y = (hi : Int) := ⟨y.toNat, by omega⟩
      subst hlo hhi
      refine (callsIn_wide.1 (Cuts_in 3 (by omega) A len cap lo hi bs (by omega) (by omega) (by omega) _ hr2 (by omega))).mono ?_
      rintro e w3 ⟨A3, n3, c3, rfl, _, hb3⟩
      have hr3 := hr2.below hb3
      have B3 := B2.trans (hb3.mono B2.size)
      clear hr2 hb3 B2
      go_wp2_with fail
      refine (callsIn_wide.1 (Blocks_in 3 (by omega) A len cap lo hi bs (by omega) (by omega) (by omega) _ hr3 (by omega))).mono ?_
      rintro e w4 ⟨A4, n4, c4, rfl, _, hb4⟩
      have hr4 := hr3.below hb4
      have B4 := B3.trans (hb4.mono B3.size)
      clear hr3 hb4 B3
      go_wp2_with fail
      refine (callsIn_wide.1 (Match_in 3 (by omega) A A len len cap cap lo hi bs bs (by omega) (by omega) (by omega) _ hr4 hr4 (by omega) (by omega) (by omega) (by omega))).mono ?_
      rintro e w5 ⟨A5, n5, c5, rfl, _, hb5⟩
      have B5 := B4.trans (hb5.mono B4.size)
      clear hr4 hb5 B4
      go_wp2_with fail
      go_ret
      exact ⟨rfl, B5⟩
    all_goals
      have B2 : Below w.heap.size w (w1.drewN nq) := below_drewN B1 nq
      refine (Cuts_bad A len cap x y (by omega) _).mono ?_
      rintro e w3 ⟨rfl, hb3⟩
      have B3 := B2.trans (hb3.mono B2.size)
      go_wp2_with fail
      refine (Blocks_bad A len cap x y (by omega) _).mono ?_
      rintro e w4 ⟨rfl, hb4⟩
      have B4 := B3.trans (hb4.mono B3.size)
      go_wp2_with fail
      refine (Match_bad A A len len cap cap x y (by omega) _).mono ?_
      rintro e w5 ⟨rfl, hb5⟩
      have B5 := B4.trans (hb5.mono B4.size)
      go_wp2_with fail
      go_ret
      exact ⟨rfl, B5⟩
end Go.Proofs.Ytdhibimhohkmoaa
