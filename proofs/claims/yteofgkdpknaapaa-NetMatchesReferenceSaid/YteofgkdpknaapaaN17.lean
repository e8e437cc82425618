/- slices.Grow and slices.Concat of packets. -/
import Derived.Test.YteofgkdpknaapaaN16
import Derived.Lib.AppendZeros
import Derived.Laws.OwnMore
namespace Go.Proofs.Yteofgkdpknaapaa
open Go.RowKit Go.Sort

theorem run_pk_nil0 (w : World) : (Instr.slice 28 (.slice none 0 0) none (some (.int .i64 0)) none).run Try.prog w = .ok (.slice none 0 0) w := run_pk_h none 0 0 0 (Nat.le_refl _) w
theorem run_pk_head0 (a : Option Addr) (n c : Nat) (w : World) : (Instr.slice 28 (.slice a n c) none (some (.int .i64 0)) none).run Try.prog w = .ok (.slice a 0 c) w := run_pk_h a n c 0 (Nat.zero_le _) w
set_option maxRecDepth 100000 in
set_option maxHeartbeats 1000000 in
/-- slices.Grow of the nil slice. -/
theorem PGrow_any (n : Nat) (hn : n ≤ 100000) (w : World) :
    Calls Try.prog 52 #[.slice none 0 0, .int .i64 (n : Int)] w fun e w' => ∃ v, e = .returned v ∧ AppZ w' w.heap.size 39 7 v 0 [] ∧ Below w.heap.size w w' := by
  obtain ⟨i39, hi39, hz39, hs39, hy39⟩ := info_parts info39
  by_cases h0 : n = 0
  · subst h0
    go_enter Try.func52, Try.ntmps52
    go_wp2_with fail
    go_ret
    exact ⟨_, rfl, AppZ.nil _, Below.refl _ _⟩
  · have happ := fun ty => Lib.run_append_nil_zeros (P := Try.prog) w 28 3 ty 39 i39 _ .i64 .i64 Try.underlying28 (by kernel_rfl) hi39 hz39 n (by omega) (by omega) (by omega) (by rw [hy39]; omega)
    have hcapge : n ≤ grownCap w n 0 39 := grownCap_ge w _ 0 _
    have hcaple : grownCap w n 0 39 ≤ maxLen := grownCap_le_maxLen w _ 0 _ (by unfold maxLen; omega)
    generalize grownCap w n 0 39 = cp at happ hcapge hcaple
    generalize hZ : (Builtin.zeroCells (Value.agg (pvC pv0).toArray).cells n ++ Builtin.zeroCells (Value.agg (pvC pv0).toArray).cells (cp - n)) = Z at happ
    have hZs : Z.size = cp * 7 := by rw [← hZ, Array.size_append, size_zeroCells, size_zeroCells, show (Value.agg (pvC pv0).toArray).cells.size = 7 from rfl]; omega
    have Happ := Lib.hid happ
    have Hn := Lib.hid h0
    have hpos : 0 < n := by omega
    have hh1 := run_pk_nil0
    have hh2 := run_pk_head0 (some ⟨w.heap.size, 0, none⟩) n cp
    clear hZ happ h0
    go_enter Try.func52, Try.ntmps52
    go_wp2_with (at_builtin; refine Lib.wpList_append_run _ rfl (.tmp 20) (.tmp 21) 28 3 rfl _ _ rfl rfl _ _ (Happ.out _) ?_)
    go_ret
    refine ⟨_, rfl, .inr ⟨by simp, .inr ⟨w.heap.size, cp, Z, rfl, Nat.le_refl _, Blk.new w.drew _ _, Nat.zero_le _, hcaple, by rw [hZs], by simp⟩⟩, ((Below.refl _ w).drew).alloc (Nat.le_refl _) _⟩
theorem below_cell {B : Nat} {w w' : World} {a : Addr} {v : Value} (h : Below B w w') (hb : a.block < B) (hc : w.cell? a = some v) : w'.cell? a = some v := by
  rw [← hc]
  unfold World.cell?
  rw [h.block _ hb]
/-- The two rows, so far. -/
def two7 (xs ys : List Pv) : Nat → List Pv
  | 0 => []
  | 1 => xs
  | _ => xs ++ ys
def twoN (n m : Nat) : Nat → Nat
  | 0 => 0
  | 1 => n
  | _ => n + m
set_option maxRecDepth 100000 in
set_option maxHeartbeats 1000000 in
/-- slices.Concat of two rows of packets. -/
theorem PConcat_any (b off : Nat) (A1 : Option Addr) (n1 c1 : Nat) (xs : List Pv) (A2 : Option Addr) (n2 c2 : Nat) (ys : List Pv) (w : World) (hS1 : w.cell? ⟨b, off, none⟩ = some (.slice A1 n1 c1)) (hS2 : w.cell? ⟨b, off + 1, none⟩ = some (.slice A2 n2 c2))
    (h1 : Rd w 7 A1 n1 (xs.flatMap pvC)) (h2 : Rd w 7 A2 n2 (ys.flatMap pvC)) (hn1 : n1 ≤ 10000) (hn2 : n2 ≤ 10000) (hbl : b < w.heap.size) :
    Calls Try.prog 36 #[.slice (some ⟨b, off, none⟩) 2 2] w fun e w' => ∃ v', e = .returned v' ∧ AppZ w' w.heap.size 39 7 v' (n1 + n2) ((xs ++ ys).flatMap pvC) ∧ Below w.heap.size w w' := by
  obtain ⟨i39, hi39, hz39, hs39, hy39⟩ := info_parts info39
  have HS1 := Lib.hid hS1
  have HS2 := Lib.hid hS2
  have H1 := Lib.hid h1
  have H2 := Lib.hid h2
  clear hS1 hS2 h1 h2
  go_enter Try.func36, Try.ntmps36
  go_upto_region 3 with fail
  go_loopw [3, 5, 11] (fun v3 _ v11 wr => ∃ k : Nat, k ≤ 2 ∧ v11 = .int .i64 (k : Int) ∧ v3 = .int .i64 ((twoN n1 n2 k : Nat) : Int) ∧ wr = w) (fun _ _ v11 _ => 2 - (intOf v11).toNat)
  case atStart => exact ⟨0, by omega, rfl, rfl, rfl⟩
  case round =>
    obtain ⟨k, hk, rfl, rfl, hwr⟩ := hrel
    subst hwr
    by_cases hlt : k < 2
    · have dk : decide ((k : Int) < 2) = true := decide_eq_true (by omega)
      have hk2 : (k : Int) < 2 := by omega
      have hk0 : (0 : Int) ≤ (k : Int) := by omega
      obtain ⟨A, n, c, hc, hn, hN⟩ : ∃ A n c, wr.cell? ⟨b, off + k, none⟩ = some (.slice A n c) ∧ n ≤ 10000 ∧ twoN n1 n2 (k + 1) = twoN n1 n2 k + n := by
        rcases (show k = 0 ∨ k = 1 by omega) with rfl | rfl
        · exact ⟨_, _, _, HS1.out, hn1, by simp [twoN]⟩
        · exact ⟨_, _, _, HS2.out, hn2, rfl⟩
      have hNl : twoN n1 n2 k ≤ 20000 := by rcases (show k = 0 ∨ k = 1 by omega) with rfl | rfl <;> simp [twoN] <;> omega
      obtain ⟨T, hT⟩ : ∃ T, T = twoN n1 n2 k := ⟨_, rfl⟩
      rw [← hT] at hN hNl ⊢
      have HN := Lib.hid hN
      clear hN hT hlt
      go_wp2_with fail
      exact ⟨⟨k + 1, by omega, by go_num, by rw [HN.out]; go_num, trivial⟩, by simp [intOf]; omega⟩
    · obtain rfl : k = 2 := by omega
      have Hg := Lib.hid (PGrow_any (n1 + n2) (by omega) wr)
      rw [show twoN n1 n2 2 = n1 + n2 from rfl]
      obtain ⟨wo, hwo⟩ : ∃ wo, wo = wr := ⟨_, rfl⟩
      subst hwo
      go_wp2_with fail
      refine Hg.out.mono ?_
      rintro e w1 ⟨v1, rfl, ha1, hb1⟩
      have Ha1 := Lib.hid ha1
      have Hb1 := Lib.hid hb1
      have hsz := hb1.size
      clear ha1 hb1 Hg
      go_wp2_with fail
      go_loopw [6, 8, 27] (fun v6 _ v27 wq => ∃ j : Nat, j ≤ 2 ∧ v27 = .int .i64 (j : Int) ∧ AppZ wq wo.heap.size 39 7 v6 (twoN n1 n2 j) ((two7 xs ys j).flatMap pvC) ∧ Below wo.heap.size wo wq) (fun _ _ v27 _ => 2 - (intOf v27).toNat)
      case atStart => exact ⟨0, by omega, rfl, Ha1.out, Hb1.out⟩
      case round =>
        obtain ⟨j, hj, rfl, happ, hB⟩ := hrel
        have hsz2 := hB.size
        by_cases hlt : j < 2
        · have dk : decide ((j : Int) < 2) = true := decide_eq_true (by omega)
          have hk2 : (j : Int) < 2 := by omega
          have hk0 : (0 : Int) ≤ (j : Int) := by omega
          obtain ⟨A, n, c, zs, hc, hr, hn, hN, hF⟩ : ∃ (A : Option Addr) (n c : Nat) (zs : List Pv), wr.cell? ⟨b, off + j, none⟩ = some (.slice A n c) ∧ Rd wr 7 A n (zs.flatMap pvC) ∧ n ≤ 10000 ∧ twoN n1 n2 (j + 1) = twoN n1 n2 j + n ∧ (two7 xs ys (j + 1)).flatMap pvC = (two7 xs ys j).flatMap pvC ++ zs.flatMap pvC := by
            rcases (show j = 0 ∨ j = 1 by omega) with rfl | rfl
            · exact ⟨_, _, _, _, below_cell hB hbl HS1.out, H1.out.below hB, hn1, by simp [twoN], by simp [two7]⟩
            · exact ⟨_, _, _, _, below_cell hB hbl HS2.out, H2.out.below hB, hn2, rfl, by simp [two7]⟩
          have hNl : twoN n1 n2 j ≤ 20000 := by rcases (show j = 0 ∨ j = 1 by omega) with rfl | rfl <;> simp [twoN] <;> omega
          have Happ := Lib.hid happ
          have HB := Lib.hid hB
          have Hr := Lib.hid hr
          have HN := Lib.hid hN
          have HF := Lib.hid hF
          clear happ hB hr hN hF hlt
          generalize twoN n1 n2 j = S at *
          generalize (two7 xs ys j).flatMap pvC = SB at *
          go_wp2_with (at_builtin; refine wpList_appz rfl (.tmp 31) (.tmp 32) 28 rfl 39 i39 _ 7 120 Try.underlying28 hi39 hz39 hs39 hy39 rfl (by omega) wo.heap.size hsz2 _ _ _ rfl Happ.out A n c (zs.flatMap pvC) rfl Hr.out (pvs_one _) (by unfold maxLen; omega) (by omega) ?_; intro v1 w3 happ1 hg1)
          exact ⟨⟨j + 1, by omega, by go_num, by rw [HN.out, HF.out]; exact happ1, HB.out.trans ((Below.refl wo.heap.size wr).grown hg1 hsz2 (fun g e => (Happ.out.lt g e).1))⟩, by simp [intOf]; omega⟩
        · obtain rfl : j = 2 := by omega
          have Happ := Lib.hid happ
          have HB := Lib.hid hB
          clear happ hB
          go_wp2_with fail
          go_ret
          exact ⟨_, rfl, Happ.out, HB.out⟩
end Go.Proofs.Yteofgkdpknaapaa
