/- Package graph and its reference: which needs fit; equality of lists; the order of lists. -/
import Derived.Test.YtgelchbbknckcaaG2
namespace Go.Proofs.Ytgelchbbknckcaa
open Go.RowKit Go.Sort

theorem ndV_arr (n : Nd) : (ndV n).toArray = #[.int .i64 n.s, .int .i64 n.u, .int .i64 n.r, .int .i64 n.e, .int .i64 n.o] := rfl
def Nd.at (n : Nd) (k : Nat) : Int := n.list.getD k 0
theorem fits_yes {n m : Nd} (h : ∀ k, k < 5 → n.at k ≤ m.at k) : fitsB n m = true := by
  have h0 := h 0 (by omega); have h1 := h 1 (by omega); have h2 := h 2 (by omega); have h3 := h 3 (by omega); have h4 := h 4 (by omega)
  exact decide_eq_true ⟨h0, h1, h2, h3, h4⟩
theorem fits_no {n m : Nd} {k : Nat} (hk : k < 5) (h : ¬ n.at k ≤ m.at k) : fitsB n m = false := by
  refine decide_eq_false fun hh => h ?_
  match k, hk with
  | 0, _ => exact hh.1
  | 1, _ => exact hh.2.1
  | 2, _ => exact hh.2.2.1
  | 3, _ => exact hh.2.2.2.1
  | 4, _ => exact hh.2.2.2.2
theorem run_index5 (n : Nd) {k : Nat} (hk : k < 5) (w : World) : (Instr.index 77 (.agg (ndV n).toArray) (.int .i64 (k : Int))).run Try.prog w = .ok (.int .i64 (n.at k)) w := by
  rcases (by omega : k = 0 ∨ k = 1 ∨ k = 2 ∨ k = 3 ∨ k = 4) with rfl | rfl | rfl | rfl | rfl <;> kernel_rfl
theorem nd_cell {W : World} {B t : Nat} {n : Nd} (h : Blk W B t (ndV n).toArray) {k : Nat} (hk : k < 5) : W.cell? ⟨B, k, none⟩ = some (.int .i64 (n.at k)) := by
  rw [h.cell]
  match k, hk with
  | 0, _ => rfl
  | 1, _ => rfl
  | 2, _ => rfl
  | 3, _ => rfl
  | 4, _ => rfl
set_option maxRecDepth 100000 in
set_option maxHeartbeats 1000000 in
theorem Fits_any (n m : Nd) (w : World) : Calls Try.prog 20 #[.agg (ndV n).toArray, .agg (ndV m).toArray] w fun e w' => e = .returned (.bool (fitsB n m)) ∧ Below w.heap.size w w' := by
  obtain ⟨i77, hi77, hz77, hs77, hy77⟩ := info_parts info77
  obtain ⟨d28, hd28, hrow28⟩ := und28
  obtain ⟨R, hR⟩ : ∃ R, R = fitsB n m := ⟨_, rfl⟩
  have hyes : (∀ k, k < 5 → n.at k ≤ m.at k) → R = true := fun h => by rw [hR]; exact fits_yes h
  have hno : ∀ k, k < 5 → ¬ n.at k ≤ m.at k → R = false := fun k hk h => by rw [hR]; exact fits_no hk h
  rw [← hR]
  have Hyes := Lib.hid hyes
  have Hno := Lib.hid hno
  clear hR hyes hno
  go_enter Try.func20, Try.ntmps20
  go_upto_region 1 with fail
  try simp only [World.size_alloc]
  obtain ⟨w1, hw1⟩ : ∃ v, v = (w.alloc (.cells (ndV n).toArray 28)).alloc (.cells (ndV m).toArray 28) := ⟨_, rfl⟩
  have hB : Below w.heap.size w w1 := by rw [hw1]; exact ((Below.refl _ _).alloc (Nat.le_refl _) _).alloc (by simp) _
  have hC : Blk w1 w.heap.size 28 (ndV n).toArray := by rw [hw1]; exact (Blk.new _ _ _).alloc _
  have hD : Blk w1 (w.heap.size + 1) 28 (ndV m).toArray := by
    have := Blk.new (w.alloc (.cells (ndV n).toArray 28)) 28 (ndV m).toArray
    rw [World.size_alloc] at this
    rw [hw1]; exact this
  rw [← hw1]
  clear hw1
  have HC := Lib.hid hC
  have HD := Lib.hid hD
  have HB := Lib.hid hB
  have Hf := Lib.hid (fields_any m w1)
  clear hC hD hB
  go_upto_region 2 with (refine wpList_load_mid rfl 28 (.tmp 3) rfl (w.heap.size + 1) 0 rfl (ndV m) d28 (Blk.range HD.out) hd28 hrow28 (by rw [ndV_len]; kernel_rfl) ?_)
  refine Hf.out.mono ?_
  rintro e w2 ⟨rfl, hb2⟩
  have HC2 := Lib.hid (HC.out.below hb2 HC.out.lt)
  have HB2 := Lib.hid (HB.out.trans (hb2.mono HB.out.size))
  clear hb2 HC HD HB Hf
  have hn_ : Blk (w2.alloc (.cells (ndV nd0).toArray 77)) w2.heap.size 77 (ndV nd0).toArray := Blk.new _ _ _
  have Hn_ := Lib.hid hn_
  clear hn_
  go_upto_region 2 with (first | (refine wpList_alloc0 rfl 77 rfl (ndV nd0).toArray _ i77 hi77 hz77 rfl ?_; simp only [Act.put, List.setIfInBounds_toArray, List.set_cons_succ, List.set_cons_zero]) | (refine wpList_store_row rfl 77 (.tmp 5) (.tmp 9) rfl w2.heap.size (ndV m).toArray rfl rfl 77 (ndV nd0).toArray Hn_.out (size77 _ rfl) rfl (nd_one _) ?_))
  obtain ⟨w3, hw3⟩ : ∃ v, v = (w2.alloc (.cells (ndV nd0).toArray 77)).setRow w2.heap.size (ndV m).toArray := ⟨_, rfl⟩
  have hb3 : Below w2.heap.size w2 w3 := by rw [hw3]; exact Below.setRow ((Below.refl _ _).alloc (Nat.le_refl _) _) (Nat.le_refl _) _
  have hL3 : Blk w3 w2.heap.size 77 (ndV m).toArray := by rw [hw3]; exact setRow_heap _ _ _ _ _ _ Hn_.out
  rw [← hw3]
  clear hw3 Hn_
  obtain ⟨lb, hlb⟩ : ∃ v, v = w2.heap.size := ⟨_, rfl⟩
  rw [← hlb] at hL3 ⊢
  clear hlb
  have HL3 := Lib.hid hL3
  have HC3 := Lib.hid (HC2.out.below hb3 HC2.out.lt)
  have HB3 := Lib.hid (HB2.out.trans (hb3.mono HB2.out.size))
  have Hf := Lib.hid (fields_any n w3)
  clear hL3 hb3 HC2 HB2
  go_wp2_with (refine wpList_load_mid rfl 28 (.tmp 2) rfl w.heap.size 0 rfl (ndV n) d28 (Blk.range HC3.out) hd28 hrow28 (by rw [ndV_len]; kernel_rfl) ?_)
  refine Hf.out.mono ?_
  rintro e w4 ⟨rfl, hb4⟩
  have HL4 := Lib.hid (HL3.out.below hb4 HL3.out.lt)
  have HB4 := Lib.hid (HB3.out.trans (hb4.mono HB3.out.size))
  clear hb4 HC3 HL3 HB3 Hf
  go_wp2_with fail
  go_loopw [12] (fun v12 wr => ∃ k : Nat, v12 = .int .i64 (k : Int) ∧ k ≤ 5 ∧ (∀ j, j < k → n.at j ≤ m.at j) ∧ wr = w4) (fun v12 _ => 5 - (intOf v12).toNat)
  case atStart => exact ⟨0, rfl, by omega, fun j h => absurd h (Nat.not_lt_zero _), rfl⟩
  case round =>
    obtain ⟨k, rfl, hk, hall, rfl⟩ := hrel
    have Hall := Lib.hid hall
    clear hall
    by_cases hlt : k < 5
    · have ck := nd_cell HL4.out hlt
      by_cases hle : n.at k ≤ m.at k
      · have hall' : ∀ j, j < k + 1 → n.at j ≤ m.at j := fun j hj => by
          by_cases hjk : j = k
          · subst hjk; exact hle
          · exact Hall.out j (by omega)
        have Hall' := Lib.hid hall'
        clear Hall hall'
        have hix := run_index5 n hlt wr
        go_wp2_with fail
        exact ⟨⟨k + 1, by go_num, by omega, Hall'.out, trivial⟩, by simp [intOf]; omega⟩
      · have Hv := Lib.hid (Hno.out k hlt (by omega))
        have hix := run_index5 n hlt wr
        go_wp2_with fail
        go_ret
        exact ⟨by rw [Hv.out]; rfl, HB4.out⟩
    · obtain rfl : k = 5 := by omega
      have Hv := Lib.hid (Hyes.out Hall.out)
      go_wp2_with fail
      go_ret
      exact ⟨by rw [Hv.out]; rfl, HB4.out⟩

theorem nd0_at (k : Nat) : nd0.at k = 0 := by
  unfold Nd.at nd0 Nd.list
  match k with
  | 0 => rfl
  | 1 => rfl
  | 2 => rfl
  | 3 => rfl
  | 4 => rfl
  | k + 5 => rfl
def ndM : Nd := ⟨1000000, 1000000, 1000000, 1000000, 1000000⟩
def rightB (n : Nd) : Bool := fitsB nd0 n && fitsB n ndM
theorem built28z : Try.prog.built 28 [] = some (ndV nd0).toArray := by kernel_rfl
theorem built28m : Try.prog.built 28 [(0, .int .i64 1000000), (1, .int .i64 1000000), (2, .int .i64 1000000), (3, .int .i64 1000000), (4, .int .i64 1000000)] = some (ndV ndM).toArray := by kernel_rfl

set_option maxRecDepth 100000 in
set_option maxHeartbeats 1000000 in
theorem right_any (n : Nd) (w : World) : Calls Try.prog 34 #[.agg (ndV n).toArray] w fun e w' => e = .returned (.bool (rightB n)) ∧ Below w.heap.size w w' := by
  obtain ⟨d28, hd28, hrow28⟩ := und28
  obtain ⟨R, hR⟩ : ∃ R, R = fitsB nd0 n := ⟨_, rfl⟩
  obtain ⟨S, hS⟩ : ∃ S, S = fitsB n ndM := ⟨_, rfl⟩
  have hr : rightB n = (R && S) := by rw [hR, hS]; rfl
  rw [hr]
  have h1 := Fits_any nd0 n
  have h2 := Fits_any n ndM
  rw [← hR] at h1
  rw [← hS] at h2
  have H1 := Lib.hid h1
  have H2 := Lib.hid h2
  clear hR hS hr h1 h2
  go_enter Try.func34, Try.ntmps34
  go_upto_region 1 with fail
  obtain ⟨w1, hw1⟩ : ∃ v, v = w.alloc (.cells (ndV n).toArray 28) := ⟨_, rfl⟩
  have hB : Below w.heap.size w w1 := by rw [hw1]; exact (Below.refl _ _).alloc (Nat.le_refl _) _
  have hC : Blk w1 w.heap.size 28 (ndV n).toArray := by rw [hw1]; exact Blk.new _ _ _
  rw [← hw1]
  clear hw1
  have HC := Lib.hid hC
  have HB := Lib.hid hB
  have Hf := Lib.hid (H1.out w1)
  clear hC hB
  go_wp2_with (first | (refine wpList_load_mid rfl 28 (.tmp 1) rfl w.heap.size 0 rfl (ndV n) d28 (Blk.range HC.out) hd28 hrow28 (by rw [ndV_len]; kernel_rfl) ?_) | (refine wpList_buildN rfl 28 _ rfl [] rfl _ built28z ?_))
  refine Hf.out.mono ?_
  rintro e w2 ⟨rfl, hb2⟩
  have HC2 := Lib.hid (HC.out.below hb2 HC.out.lt)
  have HB2 := Lib.hid (HB.out.trans (hb2.mono HB.out.size))
  clear hb2 Hf HC HB
  cases R with
  | false =>
    go_wp2_with fail
    go_ret
    exact ⟨rfl, HB2.out⟩
  | true =>
    have Hf := Lib.hid (H2.out w2)
    go_wp2_with (first | (refine wpList_load_mid_g (by first | rfl | simp [Region.wanted, yielded]) 28 (.tmp 1) rfl w.heap.size 0 rfl (ndV n) d28 (Blk.range HC2.out) hd28 hrow28 (by rw [ndV_len]; kernel_rfl) ?_))
    refine Hf.out.mono ?_
    rintro e w3 ⟨rfl, hb3⟩
    have HB3 := Lib.hid (HB2.out.trans (hb3.mono HB2.out.size))
    clear hb3 Hf HB2 HC2
    go_wp2_with fail
    go_ret
    exact ⟨by simp, HB3.out⟩
end Go.Proofs.Ytgelchbbknckcaa
