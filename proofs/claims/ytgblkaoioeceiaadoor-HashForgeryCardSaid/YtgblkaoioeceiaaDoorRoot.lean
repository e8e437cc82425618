/- Package hash: Root. -/
import Derived.Test.YtgblkaoioeceiaaDoorUp
namespace Go.Proofs.YtgblkaoioeceiaaDoor
open Go.RowKit

def rootF : Nat → List Sum32 → Sum32
  | 0, xs => xs.getD 0 z32
  | n + 1, xs => if xs.length ≤ 1 then xs.getD 0 z32 else rootF n (upL xs)
def rootL (xs : List Sum32) : Sum32 := rootF xs.length xs
theorem rootF_one : ∀ (n : Nat) (xs : List Sum32), xs.length ≤ 1 → rootF n xs = xs.getD 0 z32
  | 0, _, _ => rfl
  | n + 1, xs, h => by rw [rootF, if_pos h]
theorem rootF_fuel : ∀ (n m : Nat) (xs : List Sum32), xs.length ≤ n → xs.length ≤ m → rootF n xs = rootF m xs
  | 0, m, xs, h, _ => by rw [rootF_one m xs (by omega)]; rfl
  | n + 1, 0, xs, _, h => by rw [rootF_one (n + 1) xs (by omega)]; rfl
  | n + 1, m + 1, xs, h, h' => by
    by_cases h1 : xs.length ≤ 1
    · rw [rootF_one _ _ h1, rootF_one _ _ h1]
    · rw [rootF, rootF, if_neg h1, if_neg h1]
      exact rootF_fuel n m _ (by rw [upL_length]; omega) (by rw [upL_length]; omega)
theorem rootL_one (xs : List Sum32) (h : xs.length ≤ 1) : rootL xs = xs.getD 0 z32 := rootF_one _ _ h
theorem rootL_up (xs : List Sum32) (h : 1 < xs.length) : rootL xs = rootL (upL xs) := by
  unfold rootL
  rw [show xs.length = (xs.length - 1) + 1 from by omega, rootF, if_neg (by omega)]
  exact rootF_fuel _ _ _ (by rw [upL_length]; omega) (Nat.le_refl _)
def shaS (b : List UInt8) : Sum32 := ⟨sha b, sha_length b⟩
def root (cs : List (List UInt8)) : Sum32 := match cs with
  | [] => shaS []
  | c :: cs => rootL ((c :: cs).map leafS)

set_option maxRecDepth 100000 in
set_option maxHeartbeats 1000000 in
theorem Root_any (A : Option Addr) (len cap : Nat) (cs : List (List UInt8)) (w : World) (hg : Globs w) (hr : Lst w A len cs) (hlen : len ≤ 1000000) (hcs : ∀ c ∈ cs, c.length ≤ 8796093022000) :
    Calls Tryd.prog 20 #[.slice A len cap] w fun e w' => e = .returned (sumV (root cs).1) ∧ Below w.heap.size w w' := by
  have hl := hr.len
  go_enter Tryd.func20, Tryd.ntmps20
  go_upto_region 1 with fail
  obtain ⟨w1, hw1⟩ : ∃ w1, w1 = w.alloc (.cells zero32 32) := ⟨_, rfl⟩
  have hB1 : Below w.heap.size w w1 := by rw [hw1]; exact (Below.refl _ _).alloc (Nat.le_refl _) _
  have hs1 : w1.heap.size = w.heap.size + 1 := by rw [hw1]; simp
  have hO1 : Blk w1 w.heap.size 32 zero32 := by rw [hw1]; exact Blk.new _ _ _
  simp only [zero32, List.replicate_succ, List.replicate_zero] at hw1
  rw [← hw1]
  have hr1 := hr.below hB1
  have hg1 := hg.below hB1
  have HB1 := Lib.hid hB1
  have HO1 := Lib.hid hO1
  have Hs1 := Lib.hid hs1
  clear hw1 hg hr hB1 hO1 hs1
  cases cs with
  | nil =>
    obtain rfl : len = 0 := by simpa using hl.symm
    have hsum := Sum_any none 0 0 [] w1 hg1 (Rd.nil _ _ _) (by omega) (by omega)
    have hlf := sha_length []
    have Hsum := Lib.hid hsum
    clear hsum
    go_wp2_with fail
    refine Hsum.out.mono ?_
    rintro e w2 ⟨rfl, hb2⟩
    have hO2 : Blk w2 w.heap.size 32 zero32 := HO1.out.below hb2 (by have := Hs1.out; omega)
    have hB2 : Below w.heap.size w w2 := HB1.out.trans (hb2.mono (by have := Hs1.out; omega))
    have HO2 := Lib.hid hO2
    have HB2 := Lib.hid hB2
    clear hO2 hB2 hb2
    go_wp2_with (refine wpList_store_row rfl 32 (.tmp 2) (.tmp 7) rfl _ _ rfl rfl 32 _ HO2.out (size32 _ (sumV_size hlf)) ((zero32_size).trans (sumV_size hlf).symm) (all_oneCell_toArray (oneB _)) ?_)
    refine bodyPost_ret (results_cell_row rfl _ _ w.heap.size 32 _ (0, 0) _ rfl (setRow_heap _ _ _ _ _ _ HO2.out) und32 rfl (size32 _ (sumV_size hlf))) rfl ⟨rfl, Below.setRow HB2.out (Nat.le_refl _) _⟩
  | cons c cs =>
    have hlp : 0 < len := by simp at hl; omega
    have hlv := Leaves_any A len cap (c :: cs) w1 hg1 hr1 hlen hcs
    have hroot : root (c :: cs) = rootL ((c :: cs).map leafS) := rfl
    have hll : ((c :: cs).map leafS).length = len := by rw [List.length_map, hl]
    generalize (c :: cs).map leafS = ls at *
    have Hroot := Lib.hid hroot
    have Hlv := Lib.hid hlv
    have Hg1 := Lib.hid hg1
    clear hlv hr1 hcs hl hg1 hroot
    go_wp2_with fail
    refine Hlv.out.mono ?_
    rintro e w2 ⟨A2, c2, rfl, hc2, hrd2, hb2, _⟩
    have Hg2 := Lib.hid (Hg1.out.below hb2)
    have hO2 : Blk w2 w.heap.size 32 zero32 := HO1.out.below hb2 (by have := Hs1.out; omega)
    have hB2 : Below w.heap.size w w2 := HB1.out.trans (hb2.mono (by have := Hs1.out; omega))
    have hs2 : w.heap.size < w2.heap.size := hO2.lt
    have HO2 := Lib.hid hO2
    have HB2 := Lib.hid hB2
    clear hO2 hB2 hb2
    go_wp2_with fail
    go_loopw [3] (fun v wr => ∃ (n c' : Nat) (A' : Option Addr) (ys : List Sum32), v = .slice A' n c' ∧ n ≤ c' ∧ 0 < n ∧ n ≤ 1000000 ∧ Rd wr 32 A' n (ys.flatMap sumC) ∧ rootL ys = rootL ls ∧ Below w2.heap.size w2 wr) (fun v _ => slLen v)
    case atStart => exact ⟨len, c2, A2, ls, rfl, hc2, hlp, hlen, hrd2, rfl, Below.refl _ _⟩
    case round =>
      obtain ⟨n, c', A', ys, rfl, hnc, hn0, hn1, hrd, hro, hB⟩ := hrel
      clear hrd2
      have hyl := hrd.lenf sumC_len (by omega)
      obtain ⟨b, off, rfl, _⟩ := hrd.2.2 hn0
      by_cases h2 : 1 < n
      · have hup := Up_any b off n c' ys wr (Hg2.out.below hB) hrd hn0 hn1 hnc
        have hru := rootL_up ys (by omega)
        have Hup := Lib.hid hup
        have Hru := Lib.hid (hru.symm.trans hro)
        have HB := Lib.hid hB
        have hsz := hB.size
        clear hup hru hro hB hrd
        go_wp2_with fail
        refine Hup.out.mono ?_
        rintro e w3 ⟨A3, c3, rfl, hc3, hrd3, hb3, _⟩
        have Hr3 := Lib.hid hrd3
        clear hrd3
        go_wp2_with fail
        exact ⟨⟨(n + 1) / 2, c3, A3, upL ys, rfl, hc3, by omega, by omega, Hr3.out, Hru.out, HB.out.trans (hb3.mono hsz)⟩, by simp only [slLen]; omega⟩
      · obtain rfl : n = 1 := by omega
        have hx := hrd.range32 (k := 0) (by omega)
        rw [Nat.zero_mul, Nat.add_zero] at hx
        rw [rootL_one ys (by omega)] at hro
        rw [hro] at hx
        have hlf : (rootL ls).1.length = 32 := (rootL ls).2
        have hO3 : Blk wr w.heap.size 32 zero32 := HO2.out.below hB hs2
        have hB3 : Below w.heap.size w wr := HB2.out.trans (hB.mono (by omega))
        have HO3 := Lib.hid hO3
        have HB3 := Lib.hid hB3
        have Hx := Lib.hid hx
        have hroot := Hroot.out
        generalize rootL ls = rt at *
        have Hro2 := Lib.hid hroot
        clear hroot
        clear hO3 hB3 hB hrd hx
        go_wp2_with (first | (refine wpList_load_mid rfl 32 (.tmp 16) rfl b off rfl (sumC rt) _ Hx.out und32 rfl (by rw [sumC_len]; kernel_rfl) ?_) | (refine wpList_store_row rfl 32 (.tmp 2) (.tmp 17) rfl _ _ rfl rfl 32 _ HO3.out (size32 _ (sumV_size hlf)) ((zero32_size).trans (sumV_size hlf).symm) (all_oneCell_toArray (oneB _)) ?_))
        refine bodyPost_ret (results_cell_row rfl _ _ w.heap.size 32 _ (0, 0) _ rfl (setRow_heap _ _ _ _ _ _ HO3.out) und32 rfl (size32 _ (sumV_size hlf))) rfl ⟨by rw [Hro2.out]; rfl, Below.setRow HB3.out (Nat.le_refl _) _⟩
end Go.Proofs.YtgblkaoioeceiaaDoor
