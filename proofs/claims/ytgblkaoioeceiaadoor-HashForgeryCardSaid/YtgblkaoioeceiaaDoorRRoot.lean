/- The reference's Root. -/
import Derived.Test.YtgblkaoioeceiaaDoorRUp
namespace Go.Proofs.YtgblkaoioeceiaaDoor
open Go.RowKit Go.Sort

set_option maxRecDepth 100000 in
set_option maxHeartbeats 1000000 in
theorem RRoot_any (A : Option Addr) (len cap : Nat) (cs : List (List UInt8)) (w : World) (hr : Lst w A len cs) (hlen : len ≤ 1000000) (hcs : ∀ c ∈ cs, c.length ≤ 8796093021000) :
    Calls Tryd.prog 21 #[.slice A len cap] w fun e w' => e = .returned (sumV (root cs).1) ∧ Below w.heap.size w w' := by
  have hl := hr.len
  obtain ⟨i32, hi32, hz32, _, _⟩ := info_parts info32
  go_enter Tryd.func21, Tryd.ntmps21
  go_upto_region 1 with (refine wpList_alloc0 rfl 32 rfl zero32 (.agg zero32) i32 hi32 hz32 rfl ?_; simp only [Act.put, List.setIfInBounds_toArray, List.set_cons_succ, List.set_cons_zero])
  obtain ⟨w1, hw1⟩ : ∃ w1, w1 = w.alloc (.cells zero32 32) := ⟨_, rfl⟩
  have hB1 : Below w.heap.size w w1 := by rw [hw1]; exact (Below.refl _ _).alloc (Nat.le_refl _) _
  have hs1 : w1.heap.size = w.heap.size + 1 := by rw [hw1]; simp
  have hO1 : Blk w1 w.heap.size 32 zero32 := by rw [hw1]; exact Blk.new _ _ _
  rw [← hw1]
  have hr1 := hr.below hB1
  have HB1 := Lib.hid hB1
  have HO1 := Lib.hid hO1
  have Hs1 := Lib.hid hs1
  clear hw1 hr hB1 hO1 hs1
  cases cs with
  | nil =>
    obtain rfl : len = 0 := by simpa using hl.symm
    have hsum := RSum_any none 0 0 [] w1 (Rd.nil _ _ _) (by omega)
    have hlf := sha_length []
    have Hsum := Lib.hid hsum
    clear hsum
    go_wp2_with fail
    refine Hsum.out.mono ?_
    rintro e w2 ⟨rfl, hb2⟩
    have hO2 : Blk w2 w.heap.size 32 zero32 := HO1.out.below hb2 (by have := Hs1.out; omega)
    have hB2 : Below w.heap.size w w2 := HB1.out.trans (hb2.mono (by have := Hs1.out; omega))
    have HO2 := Lib.hid hO2
    have HB2 := Lib.hid hB2
    clear hO2 hB2 hb2
    go_wp2_with (refine wpList_store_row rfl 32 (.tmp 2) (.tmp 7) rfl _ _ rfl rfl 32 _ HO2.out (size32 _ (sumV_size hlf)) ((zero32_size).trans (sumV_size hlf).symm) (all_oneCell_toArray (oneB _)) ?_)
    refine bodyPost_ret (results_cell_row rfl _ _ w.heap.size 32 _ (0, 0) _ rfl (setRow_heap _ _ _ _ _ _ HO2.out) und32 rfl (size32 _ (sumV_size hlf))) rfl ⟨rfl, Below.setRow HB2.out (Nat.le_refl _) _⟩
  | cons c cs =>
    have hlp : 0 < len := by simp at hl; omega
    have hlv := RLeaves_any A len cap (c :: cs) w1 hr1 hlen hcs
    have hroot : root (c :: cs) = rootL ((c :: cs).map leafS) := rfl
    have hll : ((c :: cs).map leafS).length = len := by rw [List.length_map, hl]
    generalize (c :: cs).map leafS = ls at *
    have Hroot := Lib.hid hroot
    have Hlv := Lib.hid hlv
    clear hlv hr1 hcs hl hroot
    go_wp2_with fail
    refine Hlv.out.mono ?_
    rintro e w2 ⟨A2, c2, rfl, hc2, hrd2, hb2, _⟩
    have hO2 : Blk w2 w.heap.size 32 zero32 := HO1.out.below hb2 (by have := Hs1.out; omega)
    have hB2 : Below w.heap.size w w2 := HB1.out.trans (hb2.mono (by have := Hs1.out; omega))
    have hs2 : w.heap.size < w2.heap.size := hO2.lt
    have HO2 := Lib.hid hO2
    have HB2 := Lib.hid hB2
    clear hO2 hB2 hb2
    go_wp2_with fail
    go_loopw [3] (fun v wr => ∃ (n c' : Nat) (A' : Option Addr) (ys : List Sum32), v = .slice A' n c' ∧ n ≤ c' ∧ 0 < n ∧ n ≤ 1000000 ∧ Rd wr 32 A' n (ys.flatMap sumC) ∧ rootL ys = rootL ls ∧ Below w2.heap.size w2 wr) (fun v _ => slLen v)
    case atStart => exact ⟨len, c2, A2, ls, rfl, hc2, hlp, hlen, hrd2, rfl, Below.refl _ _⟩
    case round =>
      obtain ⟨n, c', A', ys, rfl, hnc, hn0, hn1, hrd, hro, hB⟩ := hrel
      clear hrd2
      have hyl := hrd.lenf sumC_len (by omega)
      obtain ⟨b, off, rfl, _⟩ := hrd.2.2 hn0
      by_cases h2 : 1 < n
      · have hup := RUp_any b off n c' ys wr hrd hn0 hn1
        have hru := rootL_up ys (by omega)
        have Hup := Lib.hid hup
        have Hru := Lib.hid (hru.symm.trans hro)
        have HB := Lib.hid hB
        have hsz := hB.size
        clear hup hru hro hB hrd
        go_wp2_with fail
        refine Hup.out.mono ?_
        rintro e w3 ⟨A3, c3, rfl, hc3, hrd3, hb3, _⟩
        have Hr3 := Lib.hid hrd3
        clear hrd3
        go_wp2_with fail
        exact ⟨⟨(n + 1) / 2, c3, A3, upL ys, rfl, hc3, by omega, by omega, Hr3.out, Hru.out, HB.out.trans (hb3.mono hsz)⟩, by simp only [slLen]; omega⟩
      · obtain rfl : n = 1 := by omega
        have hx := hrd.range32 (k := 0) (by omega)
        rw [Nat.zero_mul, Nat.add_zero] at hx
        rw [rootL_one ys (by omega)] at hro
        rw [hro] at hx
        have hlf : (rootL ls).1.length = 32 := (rootL ls).2
        have hO3 : Blk wr w.heap.size 32 zero32 := HO2.out.below hB hs2
        have hB3 : Below w.heap.size w wr := HB2.out.trans (hB.mono (by omega))
        have HO3 := Lib.hid hO3
        have HB3 := Lib.hid hB3
        have Hx := Lib.hid hx
        have hroot := Hroot.out
        generalize rootL ls = rt at *
        have Hro2 := Lib.hid hroot
        clear hroot
        clear hO3 hB3 hB hrd hx
        go_wp2_with (first | (refine wpList_load_mid rfl 32 (.tmp 16) rfl b off rfl (sumC rt) _ Hx.out und32 rfl (by rw [sumC_len]; kernel_rfl) ?_) | (refine wpList_store_row rfl 32 (.tmp 2) (.tmp 17) rfl _ _ rfl rfl 32 _ HO3.out (size32 _ (sumV_size hlf)) ((zero32_size).trans (sumV_size hlf).symm) (all_oneCell_toArray (oneB _)) ?_))
        refine bodyPost_ret (results_cell_row rfl _ _ w.heap.size 32 _ (0, 0) _ rfl (setRow_heap _ _ _ _ _ _ HO3.out) und32 rfl (size32 _ (sumV_size hlf))) rfl ⟨by rw [Hro2.out]; rfl, Below.setRow HB3.out (Nat.le_refl _) _⟩
end Go.Proofs.YtgblkaoioeceiaaDoor
