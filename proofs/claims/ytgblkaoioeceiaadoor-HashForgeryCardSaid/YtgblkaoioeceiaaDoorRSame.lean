/- The reference's SameSums. -/
import Derived.Test.YtgblkaoioeceiaaDoorTrees
import Derived.Test.YtgblkaoioeceiaaDoorRProof
namespace Go.Proofs.YtgblkaoioeceiaaDoor
open Go.RowKit Go.Sort

theorem same_next (xs ys : List Sum32) (i : Nat) (h : xs.take i = ys.take i) (hx : i < xs.length) (hy : i < ys.length) (he : xs.getD i z32 = ys.getD i z32) : xs.take (i + 1) = ys.take (i + 1) := by
  rw [List.take_add_one, List.take_add_one, h, List.getElem?_eq_getElem hx, List.getElem?_eq_getElem hy]
  rw [List.getD_eq_getElem?_getD, List.getD_eq_getElem?_getD, List.getElem?_eq_getElem hx, List.getElem?_eq_getElem hy] at he
  simp at he
  rw [he]

set_option maxRecDepth 100000 in
set_option maxHeartbeats 1000000 in
theorem RSameSums_any (A B : Option Addr) (n m c d : Nat) (xs ys : List Sum32) (w : World) (hx : Rd w 32 A n (xs.flatMap sumC)) (hy : Rd w 32 B m (ys.flatMap sumC)) :
    Calls Tryd.prog 22 #[.slice A n c, .slice B m d] w fun e w' => e = .returned (.bool (decide (xs = ys))) ∧ Below w.heap.size w w' := by
  have hxl := hx.lenf sumC_len (by omega)
  have hyl := hy.lenf sumC_len (by omega)
  have hnl := hx.le
  have hml := hy.le
  go_enter Tryd.func22, Tryd.ntmps22
  by_cases hnm : n = m
  · subst hnm
    have Hx := Lib.hid hx
    have Hy := Lib.hid hy
    clear hx hy
    go_wp2_with fail
    go_loopw [5] (fun t wr => ∃ i : Nat, i ≤ n ∧ t = .int .i64 (i : Int) ∧ xs.take i = ys.take i ∧ Below w.heap.size w wr) (fun t _ => n - (intOf t).toNat)
    case atStart => exact ⟨0, by omega, rfl, rfl, Below.refl _ _⟩
    case round =>
      obtain ⟨i, hi, rfl, htk, hB⟩ := hrel
      by_cases hlt : i < n
      · obtain ⟨b, off, rfl, _⟩ := Hx.out.2.2 (by omega)
        obtain ⟨b2, off2, rfl, _⟩ := Hy.out.2.2 (by omega)
        have hx0 := (Hx.out.below hB).range32 (k := i) hlt
        have hy0 := (Hy.out.below hB).range32 (k := i) hlt
        have hnx := same_next xs ys i htk (by omega) (by omega)
        have hdf : xs.getD i z32 ≠ ys.getD i z32 → xs ≠ ys := fun h e => h (by rw [e])
        generalize xs.getD i z32 = x at *
        generalize ys.getD i z32 = y at *
        have hx1 : ∀ w', (∃ p : Regrown, w' = grow (redrawn wr p.d) p.os) → w'.rangeAt b (off + i * 32) (sumC x) := fun w' ⟨p, hp⟩ j v hv => by rw [hp]; exact cell_regrown (hx0 j v hv) p.d p.os
        have hy1 : ∀ w', (∃ p : Regrown, w' = grow (redrawn wr p.d) p.os) → w'.rangeAt b2 (off2 + i * 32) (sumC y) := fun w' ⟨p, hp⟩ j v hv => by rw [hp]; exact cell_regrown (hy0 j v hv) p.d p.os
        have hE := run_neq_sum x y
        have Hx1 := Lib.hid hx1
        have Hy1 := Lib.hid hy1
        have HB := Lib.hid hB
        have Hnx := Lib.hid hnx
        have Hdf := Lib.hid hdf
        have Htk := Lib.hid htk
        clear hx0 hy0 hx1 hy1 hB hnx hdf htk
        by_cases hxy : x = y
        · rw [decide_eq_true hxy] at hE
          have Hxy := Lib.hid hxy
          clear hxy
          go_wp2_with fail
          refine wp_region_quiet_below (by kernel_rfl) (by kernel_rfl) ?_
          repeat (first | go_big_quiet_step (fail) | (refine wpQuiet_load_mid rfl 32 _ rfl b _ rfl (sumC x) _ Hx1.out und32 rfl (by rw [sumC_len]; kernel_rfl) ?_; simp only [Act.put, List.setIfInBounds_toArray, List.set_cons_succ, List.set_cons_zero]) | (refine wpQuiet_load_mid rfl 32 _ rfl b2 _ rfl (sumC y) _ Hy1.out und32 rfl (by rw [sumC_len]; kernel_rfl) ?_; simp only [Act.put, List.setIfInBounds_toArray, List.set_cons_succ, List.set_cons_zero]))
          refine wpQuiet_nil ?_
          intro wq hw'
          obtain ⟨⟨dq, osq⟩, hw''⟩ := hw'
          have hg := below_regrown wr dq osq
          rw [← hw''] at hg
          have Hg := Lib.hid hg
          clear hg hw''
          go_wp2_with fail
          refine ⟨⟨i + 1, by omega, by go_num, Hnx.out Hxy.out, HB.out.trans (Hg.out.mono HB.out.size)⟩, by simp [intOf]; omega⟩
        · rw [decide_eq_false hxy] at hE
          have Hxy := Lib.hid hxy
          clear hxy
          go_wp2_with fail
          refine wp_region_quiet_below (by kernel_rfl) (by kernel_rfl) ?_
          repeat (first | go_big_quiet_step (fail) | (refine wpQuiet_load_mid rfl 32 _ rfl b _ rfl (sumC x) _ Hx1.out und32 rfl (by rw [sumC_len]; kernel_rfl) ?_; simp only [Act.put, List.setIfInBounds_toArray, List.set_cons_succ, List.set_cons_zero]) | (refine wpQuiet_load_mid rfl 32 _ rfl b2 _ rfl (sumC y) _ Hy1.out und32 rfl (by rw [sumC_len]; kernel_rfl) ?_; simp only [Act.put, List.setIfInBounds_toArray, List.set_cons_succ, List.set_cons_zero]))
          refine wpQuiet_nil ?_
          intro wq hw'
          obtain ⟨⟨dq, osq⟩, hw''⟩ := hw'
          have hg := below_regrown wr dq osq
          rw [← hw''] at hg
          have Hg := Lib.hid hg
          clear hg hw''
          go_wp2_with fail
          go_ret
          refine ⟨by rw [decide_eq_false (Hdf.out Hxy.out)]; rfl, HB.out.trans (Hg.out.mono HB.out.size)⟩
      · obtain rfl : i = n := by omega
        rw [List.take_of_length_le (by omega), List.take_of_length_le (by omega)] at htk
        have HB := Lib.hid hB
        have Htk := Lib.hid htk
        clear hB htk
        go_wp2_with fail
        go_ret
        exact ⟨by rw [decide_eq_true Htk.out]; rfl, HB.out⟩
  · have hne : xs ≠ ys := fun e => hnm (by rw [← hxl, ← hyl, e])
    clear hx hy
    go_wp2_with fail
    go_ret
    exact ⟨by rw [decide_eq_false hne]; rfl, Below.refl _ _⟩
end Go.Proofs.YtgblkaoioeceiaaDoor
