/- BlockCovers: blocks cover the bytes. -/
import Derived.Test.YtdhibimhohkmoaaBlockSane
import Derived.Test.YtdhibimhohkmoaaBlockLaw
import Derived.BigQuiet
namespace Go.Proofs.Ytdhibimhohkmoaa
open Go.RowKit

set_option maxRecDepth 100000 in
set_option maxHeartbeats 2000000 in
theorem Covers_any (A : Option Addr) (len cap : Nat) (bs : List UInt8) (x y : UInt8) (w : World) (hr : Rd w 1 A len (bs.map byteV)) :
    Calls Try.prog 4 #[.slice A len cap, .agg #[.int .u8 (x.toNat : Int), .int .u8 (y.toNat : Int)]] w fun e w' => e = .returned (.bool true) ∧ Below w.heap.size w w' := by
  have hl := hr.le
  have hle := hr.len1
  have hlo : 4 ≤ 4 + x.toNat % 8 := by omega
  have hlh : 4 + x.toNat % 8 ≤ 4 + x.toNat % 8 + y.toNat % 16 := by omega
  have hhi : 4 + x.toNat % 8 + y.toNat % 16 ≤ 4096 := by omega
  have hM := fun W => Made_any x y W
  generalize 4 + x.toNat % 8 = lo at *
  generalize lo + y.toNat % 16 = hi at *
  go_enter Try.func4, Try.ntmps4
  go_wp2_with fail
  have cB := Blk.new w 45 #[.int .u8 (x.toNat : Int), .int .u8 (y.toNat : Int)]
  have B0 : Below w.heap.size w (w.alloc (.cells #[.int .u8 (x.toNat : Int), .int .u8 (y.toNat : Int)] 45)) := (Below.refl _ w).alloc (Nat.le_refl _) _
  refine (sanity_any _).mono ?_
  rintro e w1 ⟨rfl, hb1⟩
  have cB := cB.below hb1 (by simp)
  have B1 := B0.trans (hb1.mono (by simp))
  have hr1 := hr.below B1
  have c0 := cB.cell 0
  have c1 := cB.cell 1
  simp only [List.getElem?_toArray, List.getElem?_cons_zero, List.getElem?_cons_succ] at c0 c1
  clear cB B0 hb1 hr
  go_wp2_with fail
  refine (hM _).mono ?_
  rintro e w2 ⟨rfl, hb2⟩
  have B2 := B1.trans (hb2.mono B1.size)
  have hr2 := hr1.below hb2
  clear B1 hr1 hb2 c0 c1 hM
  go_wp2_with fail
  · go_ret
    exact ⟨rfl, B2.alloc B2.size _⟩
  · have cL := Blk.new w2 27 #[.int .i64 lo, .int .i64 hi]
    have hb3 : Below w2.heap.size w2 (w2.alloc (.cells #[.int .i64 lo, .int .i64 hi] 27)) := (Below.refl _ _).alloc (Nat.le_refl _) _
    have hr3 := hr2.below hb3
    have B3 := B2.trans (hb3.mono B2.size)
    clear hb3 hr2 B2
    refine (blocks_good A len cap lo hi bs hlo hlh hhi _ hr3 (by omega)).mono ?_
    rintro e w4 ⟨A4, n4, c4, rfl, rs4, hb4⟩
    have cL := cL.below hb4 (by simp)
    have B4 := B3.trans (hb4.mono B3.size)
    have hr4 := hr3.below hb4
    have c0 := cL.cell 0
    have c1 := cL.cell 1
    simp only [List.getElem?_toArray, List.getElem?_cons_zero, List.getElem?_cons_succ] at c0 c1
    clear hr3 hb4 B3
    go_wp2_with fail
    refine (callsIn_wide.1 (Cuts_in 3 (by omega) A len cap lo hi bs hlo hlh hhi _ hr4 (by omega))).mono ?_
    rintro e w5 ⟨A5, n5, c5, rfl, rs5, hb5⟩
    have cL := cL.below hb5 cL.lt
    have B5 := B4.trans (hb5.mono B4.size)
    have rs4 := rs4.below hb5
    have c0 := cL.cell 0
    have c1 := cL.cell 1
    simp only [List.getElem?_toArray, List.getElem?_cons_zero, List.getElem?_cons_succ] at c0 c1
    have hC := blocks_chain bs lo hi hlh (by omega)
    rw [cutsB_eq bs lo hi hlh (by omega)] at rs5
    clear hr4 hb5 B4 cL
    generalize blocks bs lo hi = rs at *
    have l4 := rs4.lenf twoV_len (by omega)
    have l5 := rs5.len1
    have hlast := chain_last hC
    have hnil := chain_nil hC
    simp only [List.length_map, List.length_dropLast] at l4 l5
    by_cases h0 : n4 = 0
    · subst h0
      obtain rfl : rs = [] := List.length_eq_zero_iff.1 l4
      obtain rfl : n5 = 0 := by simpa using l5.symm
      obtain rfl : len = 0 := by have := hnil.1 rfl; omega
      clear hnil hlast hC rs4 rs5 l4 l5
      go_wp2_with fail
      go_loopw [11, 12, 13] (fun a i v wr => a = .int .i64 0 ∧ i = .int .i64 0 ∧ wr = w5) (fun _ _ _ _ => 0)
      case atStart => exact ⟨rfl, rfl, rfl⟩
      case round =>
        obtain ⟨rfl, rfl, rfl⟩ := hrel
        go_wp2
        go_ret
        exact ⟨rfl, B5⟩
    · have hpos : 0 < len := by
        apply Classical.byContradiction
        intro hc
        have := hnil.2 (by omega)
        subst this
        exact h0 (by simpa using l4.symm)
      have h45 : (n4 : Int) - 1 = (n5 : Int) := by omega
      have hw : wrap64 ((n4 : Int) - 1) = (n5 : Int) := by
        have := rs4.le
        rw [h45]
        simp only [wrap64]
        omega
      have hmax : ¬ ((n5 : Int) < 0) := by omega
      have hneq : ((len : Int) == 0) = false := by simp; omega
      have hneq4 : ((n4 : Int) == 0) = false := by simp; omega
      have HC := Lib.hid hC
      have HL := Lib.hid hlast
      have HE := Lib.hid hle
      have H4 := Lib.hid l4
      have H5 := Lib.hid l5
      have H45 := Lib.hid h45
      clear hnil l4 l5 hlast hC hle h45
      go_wp2_with fail
      clear hw hmax hneq hneq4
      go_loopw [11, 12, 13] (fun a i v wr => ∃ k : Nat, k ≤ n4 ∧ a = .int .i64 (reach 0 rs k : Nat) ∧ i = .int .i64 k ∧ ∃ m, wr = w5.drewN m) (fun _ i _ _ => n4 - (intOf i).toNat)
      case atStart => exact ⟨0, Nat.zero_le _, rfl, rfl, 0, (World.drewN_zero _).symm⟩
      case round =>
        obtain ⟨k, hk, rfl, rfl, m, rfl⟩ := hrel
        by_cases hlt : k < n4
        · obtain ⟨b4, off4, f, t, rfl, hx, g1, g2⟩ := rs4.two_ hlt
          rw [List.getElem?_map] at hx
          obtain ⟨r, hrk, hxy⟩ := Option.map_eq_some_iff.1 hx
          cases hxy
          obtain ⟨i1, i2, i3, i4, i5, i6⟩ := chain_at HC.out hrk
          have hq : r.2 ≤ 400 := by have := HE.out; omega
          have hn4 : n4 ≤ 400 := by have := chain_length HC.out; have := HE.out; have := H4.out; omega
          rw [← i1]
          obtain ⟨p, q⟩ := r
          obtain ⟨d, rfl⟩ : ∃ d, q = p + d := ⟨q - p, by omega⟩
          have d1 : 1 ≤ d := by omega
          have dh : d ≤ hi := by omega
          have dd : d ≤ 400 := by omega
          have pp : p ≤ 400 := by omega
          replace g1 : w5.cell? ⟨b4, off4 + k * 2, none⟩ = some (.int .i64 (p : Int)) := g1
          replace g2 : w5.cell? ⟨b4, off4 + k * 2 + 1, none⟩ = some (.int .i64 ((p : Int) + (d : Int))) := by rw [g2]; simp
          replace i6 : reach 0 rs (k + 1) = p + d := i6
          have I6 := Lib.hid i6
          have hlo2 : k + 1 < n4 → lo ≤ d := fun h => by have := (i5 (by rw [H4.out]; exact h)).2; omega
          clear i1 i2 i3 i4 i5 i6 hx hq
          by_cases hn : k + 1 < n4
          · have hkk : k < n5 := by have := H45.out; omega
            obtain ⟨b5, off5, v5, rfl, hv, g3⟩ := rs5.int_ hkk
            have hv5 : v5 = (p : Int) + (d : Int) := by
              rw [List.getElem?_map, List.getElem?_dropLast, if_pos (by rw [H5.out]; exact hkk), hrk] at hv
              simpa using hv.symm
            subst hv5
            replace hlo2 := hlo2 hn
            have t1 : decide ((d : Int) < 1) = false := by simp; omega
            have t2 : decide ((hi : Int) < (d : Int)) = false := by simp; omega
            have t3 : decide ((d : Int) < (lo : Int)) = false := by simp; omega
            have s2 : decide (hi < d) = false := by simp; omega
            have s3 : decide (d < lo) = false := by simp; omega
            have s4 : decide (k + 1 < n4) = true := by simp; omega
            have t4 : decide ((k : Int) + 1 < (n4 : Int)) = true := by simp; omega
            clear hv hrk hlh hhi hpos h0
            go_wp2
            go_quiet (fail)
            rw [show ((p : Int) + (d : Int) - (p : Int)) = (d : Int) from by omega]
            go_wp2
            go_quiet (fail)
            go_wp2
            exact ⟨⟨k + 1, by omega, by rw [I6.out]; go_num, by go_num, _, rfl⟩, by simp [intOf]; omega⟩
          · clear hrk hlh hhi hpos h0 hlo2
            have t1 : decide ((d : Int) < 1) = false := by simp; omega
            have t2 : decide ((hi : Int) < (d : Int)) = false := by simp; omega
            have s2 : decide (hi < d) = false := by simp; omega
            have s4 : decide (k + 1 < n4) = false := by simp; omega
            have t4 : decide ((k : Int) + 1 < (n4 : Int)) = false := by simp; omega
            go_wp2
            go_quiet (fail)
            rw [show ((p : Int) + (d : Int) - (p : Int)) = (d : Int) from by omega]
            go_wp2
            go_quiet (fail)
            go_wp2
            exact ⟨⟨k + 1, by omega, by rw [I6.out]; go_num, by go_num, _, rfl⟩, by simp [intOf]; omega⟩
        · obtain rfl : k = n4 := by omega
          have e : ((reach 0 rs k : Nat) : Int) = (len : Int) := by rw [← H4.out, HL.out, HE.out]
          rw [e]
          go_wp2
          go_ret
          exact ⟨rfl, below_drewN B5 _⟩
end Go.Proofs.Ytdhibimhohkmoaa
