/- BlockMatchesReference: Cuts, Blocks and Match agree with the reference, for any limits. -/
import Derived.Test.YtdhibimhohkmoaaBlockSane
import Derived.Test.YtdhibimhohkmoaaBlockRMatch
namespace Go.Proofs.Ytdhibimhohkmoaa
open Go.RowKit

set_option maxRecDepth 100000 in
set_option maxHeartbeats 4000000 in
theorem MR_any (A : Option Addr) (len cap : Nat) (xa : List UInt8) (A' : Option Addr) (len' cap' : Nat) (xb : List UInt8) (x y : Int) (w : World) (hr : Rd w 1 A len (xa.map byteV)) (hc : len ≤ cap) (hr' : Rd w 1 A' len' (xb.map byteV)) (hc' : len' ≤ cap') (hx : -32768 ≤ x ∧ x ≤ 32767) (hy : -32768 ≤ y ∧ y ≤ 32767) :
    Calls Try.prog 3 #[.slice A len cap, .slice A' len' cap', .agg #[.int .i16 x, .int .i16 y]] w fun e w' => e = .returned (.bool true) ∧ Below w.heap.size w w' := by
  have hl := hr.le
  have hl' := hr'.le
  go_enter Try.func3, Try.ntmps3
  go_wp2_with fail
  have cB := Blk.new w 24 #[.int .i16 x, .int .i16 y]
  have hb0 : Below w.heap.size w (w.alloc (.cells #[.int .i16 x, .int .i16 y] 24)) := (Below.refl _ w).alloc (Nat.le_refl _) _
  refine (sanity_any _).mono ?_
  rintro e w1 ⟨rfl, hb1⟩
  have cB := cB.below hb1 (by simp)
  have B1 := hb0.trans (hb1.mono (by simp))
  have hr1 := hr.below B1
  have hr1' := hr'.below B1
  have c0 := cB.cell 0
  have c1 := cB.cell 1
  simp only [List.getElem?_toArray, List.getElem?_cons_zero, List.getElem?_cons_succ] at c0 c1
  clear cB hb0 hb1 hr hr'
  by_cases hbig : 200 < len ∨ 200 < len'
  · by_cases hbig1 : 200 < len
    · go_wp2_with fail
      go_ret
      exact ⟨rfl, B1⟩
    · have hbig2 : 200 < len' := by omega
      clear hbig
      go_wp2_with fail
      go_ret
      exact ⟨rfl, B1⟩
  have s1 : len ≤ 200 := by omega
  have s2 : len' ≤ 200 := by omega
  clear hbig
  by_cases hgood : 4 ≤ x ∧ x ≤ y ∧ y ≤ 4096
  · obtain ⟨lo, rfl⟩ : ∃ lo : Nat, x = (lo : Int) := ⟨x.toNat, by omega⟩
    obtain ⟨hi, rfl⟩ : ∃ hi : Nat, y = (hi : Int) := ⟨y.toNat, by omega⟩
    have hlo : 4 ≤ lo := by omega
    have hlh : lo ≤ hi := by omega
    have hhi : hi ≤ 4096 := by omega
    clear hgood hx hy
    go_wp2_with fail
    have cL := Blk.new w1 27 #[.int .i64 lo, .int .i64 hi]
    have hb2 : Below w1.heap.size w1 (w1.alloc (.cells #[.int .i64 lo, .int .i64 hi] 27)) := (Below.refl _ _).alloc (Nat.le_refl _) _
    have B2 := B1.trans (hb2.mono B1.size)
    have hr2 := hr1.below hb2
    have hr2' := hr1'.below hb2
    clear c0 c1 hb2 B1 hr1 hr1'
    have hC := chain_length (blocks_chain xa lo hi hlh (by omega))
    have hlxa := hr2.len1
    have hq := cutsB_eq xa lo hi hlh (by omega)
    have c0 := cL.cell 0
    have c1 := cL.cell 1
    simp only [List.getElem?_toArray, List.getElem?_cons_zero, List.getElem?_cons_succ] at c0 c1
    refine (callsIn_wide.1 (Cuts_in 3 (by omega) A len cap lo hi xa hlo hlh hhi _ hr2 (by omega))).mono ?_
    rintro e w3 ⟨AP, nP, cP, rfl, rP, hb3⟩
    have cL := cL.below hb3 cL.lt
    have B3 := B2.trans (hb3.mono B2.size)
    have hr3 := hr2.below hb3
    have hr3' := hr2'.below hb3
    clear c0 c1 B2 hr2 hr2' hb3
    have c0 := cL.cell 0
    have c1 := cL.cell 1
    simp only [List.getElem?_toArray, List.getElem?_cons_zero, List.getElem?_cons_succ] at c0 c1
    go_wp2_with fail
    refine (RCuts_of A len cap lo hi 0 (blocks xa lo hi) _ (by omega) (fun W hW => RBlocks_any A len cap lo hi xa hlo hlh hhi W (hr3.below hW) (by omega))).mono ?_
    rintro e w4 ⟨AQ, nQ, cQ, rfl, rQ, hb4⟩
    have cL := cL.below hb4 cL.lt
    have B4 := B3.trans (hb4.mono B3.size)
    have hr4 := hr3.below hb4
    have hr4' := hr3'.below hb4
    have rP := rP.below hb4
    clear c0 c1 B3 hr3 hr3' hb4
    have c0 := cL.cell 0
    have c1 := cL.cell 1
    simp only [List.getElem?_toArray, List.getElem?_cons_zero, List.getElem?_cons_succ] at c0 c1
    go_wp2_with fail
    refine (blocks_good A len cap lo hi xa hlo hlh hhi _ hr4 (by omega)).mono ?_
    rintro e w5 ⟨AR, nR, cR, rfl, rR, hb5⟩
    have cL := cL.below hb5 cL.lt
    have B5 := B4.trans (hb5.mono B4.size)
    have hr5 := hr4.below hb5
    have hr5' := hr4'.below hb5
    have rP := rP.below hb5
    have rQ := rQ.below hb5
    clear c0 c1 B4 hr4 hr4' hb5
    have c0 := cL.cell 0
    have c1 := cL.cell 1
    simp only [List.getElem?_toArray, List.getElem?_cons_zero, List.getElem?_cons_succ] at c0 c1
    go_wp2_with fail
    refine (RBlocks_any A len cap lo hi xa hlo hlh hhi _ hr5 (by omega)).mono ?_
    rintro e w6 ⟨AS, nS, cS, rfl, rS, hb6⟩
    have cL := cL.below hb6 cL.lt
    have B6 := B5.trans (hb6.mono B5.size)
    have hr6 := hr5.below hb6
    have hr6' := hr5'.below hb6
    have rP := rP.below hb6
    have rQ := rQ.below hb6
    have rR := rR.below hb6
    clear c0 c1 B5 hr5 hr5' hb6
    have c0 := cL.cell 0
    have c1 := cL.cell 1
    simp only [List.getElem?_toArray, List.getElem?_cons_zero, List.getElem?_cons_succ] at c0 c1
    go_wp2_with fail
    refine (callsIn_wide.1 (Match_in 3 (by omega) A A' len len' cap cap' lo hi xa xb hlo hlh hhi _ hr6 hr6' hc hc' (by omega) (by omega))).mono ?_
    rintro e w7 ⟨AT, nT, cT, rfl, rT, hb7⟩
    have cL := cL.below hb7 cL.lt
    have B7 := B6.trans (hb7.mono B6.size)
    have hr7 := hr6.below hb7
    have hr7' := hr6'.below hb7
    have rP := rP.below hb7
    have rQ := rQ.below hb7
    have rR := rR.below hb7
    have rS := rS.below hb7
    clear c0 c1 B6 hr6 hr6' hb7
    have c0 := cL.cell 0
    have c1 := cL.cell 1
    simp only [List.getElem?_toArray, List.getElem?_cons_zero, List.getElem?_cons_succ] at c0 c1
    go_wp2_with fail
    refine (RMatch_any A A' len len' cap cap' lo hi xa xb hlo hlh hhi _ hr7 hr7' hc hc' (by omega) (by omega)).mono ?_
    rintro e w8 ⟨AU, nU, cU, rfl, rU, hb8⟩
    have cL := cL.below hb8 cL.lt
    have B8 := B7.trans (hb8.mono B7.size)
    have hr8 := hr7.below hb8
    have hr8' := hr7'.below hb8
    have rP := rP.below hb8
    have rQ := rQ.below hb8
    have rR := rR.below hb8
    have rS := rS.below hb8
    have rT := rT.below hb8
    clear c0 c1 B7 hr7 hr7' hb8
    rw [hq] at rP
    clear cL hr8 hr8'
    go_wp2_with fail
    refine (Ints_any _ _ _ _ _ _ _ _ _ rP rQ).mono ?_
    rintro e w9 ⟨rfl, m, hm⟩
    simp only [decide_true]
    have B9 : Below w.heap.size w w9 := by rw [hm]; exact below_drewN B8 m
    have rP := rP.drewN m
    rw [← hm] at rP
    have rQ := rQ.drewN m
    rw [← hm] at rQ
    have rR := rR.drewN m
    rw [← hm] at rR
    have rS := rS.drewN m
    rw [← hm] at rS
    have rT := rT.drewN m
    rw [← hm] at rT
    have rU := rU.drewN m
    rw [← hm] at rU
    clear hm B8
    go_wp2_with fail
    refine (SameRanges_any _ _ _ _ _ _ _ _ _ rR rS).mono ?_
    rintro e w10 ⟨rfl, m, hm⟩
    simp only [decide_true]
    have B10 : Below w.heap.size w w10 := by rw [hm]; exact below_drewN B9 m
    have rP := rP.drewN m
    rw [← hm] at rP
    have rQ := rQ.drewN m
    rw [← hm] at rQ
    have rR := rR.drewN m
    rw [← hm] at rR
    have rS := rS.drewN m
    rw [← hm] at rS
    have rT := rT.drewN m
    rw [← hm] at rT
    have rU := rU.drewN m
    rw [← hm] at rU
    clear hm B9
    go_wp2_with fail
    refine (SamePairs_any _ _ _ _ _ _ _ _ _ rT rU).mono ?_
    rintro e w11 ⟨rfl, m, hm⟩
    simp only [decide_true]
    have B11 : Below w.heap.size w w11 := by rw [hm]; exact below_drewN B10 m
    have rP := rP.drewN m
    rw [← hm] at rP
    have rQ := rQ.drewN m
    rw [← hm] at rQ
    have rR := rR.drewN m
    rw [← hm] at rR
    have rS := rS.drewN m
    rw [← hm] at rS
    have rT := rT.drewN m
    rw [← hm] at rT
    have rU := rU.drewN m
    rw [← hm] at rU
    clear hm B10
    go_wp2_with fail
    go_ret
    exact ⟨rfl, B11⟩
  · have hbad : ¬ (4 ≤ x ∧ x ≤ y ∧ y ≤ 4096) := hgood
    clear hgood
    go_wp2_with fail
    have cL := Blk.new w1 27 #[.int .i64 x, .int .i64 y]
    have hb2 : Below w1.heap.size w1 (w1.alloc (.cells #[.int .i64 x, .int .i64 y] 27)) := (Below.refl _ _).alloc (Nat.le_refl _) _
    have B2 := B1.trans (hb2.mono B1.size)
    have hr2 := hr1.below hb2
    have hr2' := hr1'.below hb2
    clear c0 c1 hb2 B1 hr1 hr1'
    have c0 := cL.cell 0
    have c1 := cL.cell 1
    simp only [List.getElem?_toArray, List.getElem?_cons_zero, List.getElem?_cons_succ] at c0 c1
    refine (Cuts_bad A len cap x y hbad _).mono ?_
    rintro e w3 ⟨rfl, hb3⟩
    have cL := cL.below hb3 cL.lt
    have B3 := B2.trans (hb3.mono B2.size)
    have hr3 := hr2.below hb3
    have hr3' := hr2'.below hb3
    clear c0 c1 B2 hr2 hr2' hb3
    have c0 := cL.cell 0
    have c1 := cL.cell 1
    simp only [List.getElem?_toArray, List.getElem?_cons_zero, List.getElem?_cons_succ] at c0 c1
    go_wp2_with fail
    refine (RCuts_of A len cap x y 1 [] _ (by simp) (fun W hW => (RBlocks_bad A len cap x y hbad W).mono fun e W' ⟨h1, h2⟩ => ⟨none, 0, 0, h1, Rd.nil _ _ _, h2⟩)).mono ?_
    rintro e w4 ⟨AQ, nQ, cQ, rfl, rQ, hb4⟩
    have cL := cL.below hb4 cL.lt
    have B4 := B3.trans (hb4.mono B3.size)
    have hr4 := hr3.below hb4
    have hr4' := hr3'.below hb4
    clear c0 c1 B3 hr3 hr3' hb4
    have c0 := cL.cell 0
    have c1 := cL.cell 1
    simp only [List.getElem?_toArray, List.getElem?_cons_zero, List.getElem?_cons_succ] at c0 c1
    go_wp2_with fail
    refine (blocks_bad A len cap x y hbad _).mono ?_
    rintro e w5 ⟨rfl, hb5⟩
    have cL := cL.below hb5 cL.lt
    have B5 := B4.trans (hb5.mono B4.size)
    have hr5 := hr4.below hb5
    have hr5' := hr4'.below hb5
    have rQ := rQ.below hb5
    clear c0 c1 B4 hr4 hr4' hb5
    have c0 := cL.cell 0
    have c1 := cL.cell 1
    simp only [List.getElem?_toArray, List.getElem?_cons_zero, List.getElem?_cons_succ] at c0 c1
    go_wp2_with fail
    refine (RBlocks_bad A len cap x y hbad _).mono ?_
    rintro e w6 ⟨rfl, hb6⟩
    have cL := cL.below hb6 cL.lt
    have B6 := B5.trans (hb6.mono B5.size)
    have hr6 := hr5.below hb6
    have hr6' := hr5'.below hb6
    have rQ := rQ.below hb6
    clear c0 c1 B5 hr5 hr5' hb6
    have c0 := cL.cell 0
    have c1 := cL.cell 1
    simp only [List.getElem?_toArray, List.getElem?_cons_zero, List.getElem?_cons_succ] at c0 c1
    go_wp2_with fail
    refine (Match_bad A A' len len' cap cap' x y hbad _).mono ?_
    rintro e w7 ⟨rfl, hb7⟩
    have cL := cL.below hb7 cL.lt
    have B7 := B6.trans (hb7.mono B6.size)
    have hr7 := hr6.below hb7
    have hr7' := hr6'.below hb7
    have rQ := rQ.below hb7
    clear c0 c1 B6 hr6 hr6' hb7
    have c0 := cL.cell 0
    have c1 := cL.cell 1
    simp only [List.getElem?_toArray, List.getElem?_cons_zero, List.getElem?_cons_succ] at c0 c1
    go_wp2_with fail
    refine (RMatch_bad A A' len len' cap cap' x y xa xb hbad _ hr7 hr7' hc hc').mono ?_
    rintro e w8 ⟨AU, nU, cU, rfl, rU, hb8⟩
    have cL := cL.below hb8 cL.lt
    have B8 := B7.trans (hb8.mono B7.size)
    have hr8 := hr7.below hb8
    have hr8' := hr7'.below hb8
    have rQ := rQ.below hb8
    clear c0 c1 B7 hr7 hr7' hb8
    have rP : Rd w8 1 none 0 (([] : List Int).map intV) := Rd.nil _ _ _
    have rR : Rd w8 2 none 0 (([] : List (Int × Int)).flatMap twoV) := Rd.nil _ _ _
    clear cL hr8 hr8'
    go_wp2_with fail
    refine (Ints_any _ _ _ _ _ _ _ _ _ rP rQ).mono ?_
    rintro e w9 ⟨rfl, m, hm⟩
    simp only [decide_true, List.dropLast_nil, List.map_nil]
    have B9 : Below w.heap.size w w9 := by rw [hm]; exact below_drewN B8 m
    have rP := rP.drewN m
    rw [← hm] at rP
    have rQ := rQ.drewN m
    rw [← hm] at rQ
    have rR := rR.drewN m
    rw [← hm] at rR
    have rU := rU.drewN m
    rw [← hm] at rU
    clear hm B8
    go_wp2_with fail
    refine (SameRanges_any _ _ _ _ _ _ _ _ _ rR rR).mono ?_
    rintro e w10 ⟨rfl, m, hm⟩
    simp only [decide_true, List.dropLast_nil, List.map_nil]
    have B10 : Below w.heap.size w w10 := by rw [hm]; exact below_drewN B9 m
    have rP := rP.drewN m
    rw [← hm] at rP
    have rQ := rQ.drewN m
    rw [← hm] at rQ
    have rR := rR.drewN m
    rw [← hm] at rR
    have rU := rU.drewN m
    rw [← hm] at rU
    clear hm B9
    go_wp2_with fail
    refine (SamePairs_any _ _ _ _ _ _ _ _ _ rR rU).mono ?_
    rintro e w11 ⟨rfl, m, hm⟩
    simp only [decide_true, List.dropLast_nil, List.map_nil]
    have B11 : Below w.heap.size w w11 := by rw [hm]; exact below_drewN B10 m
    have rP := rP.drewN m
    rw [← hm] at rP
    have rQ := rQ.drewN m
    rw [← hm] at rQ
    have rR := rR.drewN m
    rw [← hm] at rR
    have rU := rU.drewN m
    rw [← hm] at rU
    clear hm B10
    go_wp2_with fail
    go_ret
    exact ⟨rfl, B11⟩
end Go.Proofs.Ytdhibimhohkmoaa
