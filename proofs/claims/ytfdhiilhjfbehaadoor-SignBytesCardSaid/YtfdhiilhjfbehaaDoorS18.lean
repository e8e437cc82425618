/- Parts of the laws: made, Same, same. -/
import Derived.Test.YtfdhiilhjfbehaaDoorS17
namespace Go.Proofs.YtfdhiilhjfbehaaDoor
open Go.RowKit Go.Sort

set_option maxRecDepth 100000 in
set_option maxHeartbeats 1000000 in
theorem made_any (k : Sc) (A : Option Addr) (len cap : Nat) (bs : List UInt8) (w : World) (hg : Globs w) (hr : Rd w 1 A len (bs.map byteV)) (hlen : len ≤ 8796093021000) :
    Calls Tryd.prog 17 #[.agg (secV k).toArray, .slice A len cap] w fun e w' => (∃ (C : Option Addr) (n c : Nat) (D : Option Addr) (m d : Nat), e = .returned (.agg (sgnV (signS k bs).1.i C n c D m d (signS k bs).2.1 (signS k bs).2.2).toArray) ∧ n ≤ c ∧ m ≤ d ∧ TRd w' 26 32 C n ((signS k bs).1.ch.flatMap sumC) ∧ TRd w' 26 32 D m ((signS k bs).1.pa.flatMap sumC)) ∧ Below w.heap.size w w' := by
  obtain ⟨S, hS⟩ : ∃ S, S = signS k bs := ⟨_, rfl⟩
  obtain ⟨i37, hi37, hz37, _, _⟩ := info_parts info37
  obtain ⟨i28, hi28, hz28, _, _⟩ := info_parts info28
  obtain ⟨i39, hi39, hz39, _, _⟩ := info_parts info39
  obtain ⟨d28, hd28, hrow28⟩ := und28
  obtain ⟨d37, hd37, hrow37⟩ := und37
  obtain ⟨d39, hd39, hrow39⟩ := und39
  rw [← hS]
  have HS := Lib.hid hS
  clear hS
  go_enter Tryd.func17, Tryd.ntmps17
  go_upto_region 1 with (refine wpList_alloc0 rfl 39 rfl (sgnV 0 none 0 0 none 0 0 sc0 0).toArray _ i39 hi39 hz39 rfl ?_; simp only [Act.put, List.setIfInBounds_toArray, List.set_cons_succ, List.set_cons_zero])
  obtain ⟨w1, hw1⟩ : ∃ w1, w1 = (w.alloc (.cells (secV k).toArray 28)).alloc (.cells (sgnV 0 none 0 0 none 0 0 sc0 0).toArray 39) := ⟨_, rfl⟩
  have hB1 : Below w.heap.size w w1 := by rw [hw1]; exact ((Below.refl _ _).alloc (Nat.le_refl _) _).alloc (by simp) _
  have hX1 : Blk w1 w.heap.size 28 (secV k).toArray := by rw [hw1]; exact (Blk.new _ _ _).alloc _
  have hZ1 : Blk w1 (w.heap.size + 1) 39 (sgnV 0 none 0 0 none 0 0 sc0 0).toArray := by
    have := Blk.new (w.alloc (.cells (secV k).toArray 28)) 39 (sgnV 0 none 0 0 none 0 0 sc0 0).toArray
    rw [World.size_alloc] at this
    rw [hw1]; exact this
  rw [← hw1]
  try simp only [World.size_alloc]
  clear hw1
  have hsz1 := hB1.size
  have HB := Lib.hid hB1
  have HZ := Lib.hid hZ1
  have Hrg := Lib.hid (Blk.range hX1)
  have hg1 := hg.below hB1
  have hr1 := hr.below hB1
  clear hB1 hX1 hZ1 hg hr
  go_upto_region 2 with (refine wpList_load_mid rfl 28 (.tmp 2) rfl w.heap.size 0 rfl (secV k) d28 Hrg.out hd28 hrow28 (by rw [secV_len]; kernel_rfl) ?_)
  refine (Sign_any k A len cap bs w1 hg1 hr1 hlen).mono ?_
  rintro e w2 ⟨⟨C, n, c, D, m, d, rfl, hnc, hmd, hC, hD⟩, hb2⟩
  rw [← HS.out] at hC hD ⊢
  replace HZ := Lib.hid (HZ.out.below hb2 HZ.out.lt)
  replace HB := Lib.hid (HB.out.trans (hb2.mono hsz1))
  have hsz2 := HB.out.size
  obtain ⟨w3, hw3⟩ : ∃ v, v = (w2.alloc (.cells (sgV 0 none 0 0 none 0 0).toArray 37)).alloc (.cells (secV sc0).toArray 28) := ⟨_, rfl⟩
  have hY3 : Blk w3 w2.heap.size 37 (sgV 0 none 0 0 none 0 0).toArray := by rw [hw3]; exact (Blk.new _ _ _).alloc _
  have hW3 : Blk w3 (w2.heap.size + 1) 28 (secV sc0).toArray := by
    have := Blk.new (w2.alloc (.cells (sgV 0 none 0 0 none 0 0).toArray 37)) 28 (secV sc0).toArray
    rw [World.size_alloc] at this
    rw [hw3]; exact this
  have hb3 : Below w2.heap.size w2 w3 := by rw [hw3]; exact ((Below.refl _ _).alloc (Nat.le_refl _) _).alloc (by simp) _
  have hkY := (KeptIn.refl (fun b => b ≠ w2.heap.size) w3).setRow (g := w2.heap.size) (fun h => h rfl) (sgV S.1.i C n c D m d).toArray
  have hY4 : Blk (w3.setRow w2.heap.size (sgV S.1.i C n c D m d).toArray) w2.heap.size 37 (sgV S.1.i C n c D m d).toArray := setRow_heap _ _ _ _ _ _ hY3
  have hW4 := hW3.keptIn hkY (show w2.heap.size + 1 ≠ w2.heap.size by omega)
  have hb4 : Below w2.heap.size w2 (w3.setRow w2.heap.size (sgV S.1.i C n c D m d).toArray) := Below.setRow hb3 (Nat.le_refl _) _
  have hkW := (KeptIn.refl (fun b => b ≠ w2.heap.size + 1) (w3.setRow w2.heap.size (sgV S.1.i C n c D m d).toArray)).setRow (g := w2.heap.size + 1) (fun h => h rfl) (secV S.2.1).toArray
  have hW5 : Blk ((w3.setRow w2.heap.size (sgV S.1.i C n c D m d).toArray).setRow (w2.heap.size + 1) (secV S.2.1).toArray) (w2.heap.size + 1) 28 (secV S.2.1).toArray := setRow_heap _ _ _ _ _ _ hW4
  have hY5 := hY4.keptIn hkW (show w2.heap.size ≠ w2.heap.size + 1 by omega)
  have hb5 : Below w2.heap.size w2 ((w3.setRow w2.heap.size (sgV S.1.i C n c D m d).toArray).setRow (w2.heap.size + 1) (secV S.2.1).toArray) := Below.setRow hb4 (by omega) _
  obtain ⟨w5, hw5⟩ : ∃ v, v = (w3.setRow w2.heap.size (sgV S.1.i C n c D m d).toArray).setRow (w2.heap.size + 1) (secV S.2.1).toArray := ⟨_, rfl⟩
  rw [← hw5] at hW5 hY5 hb5
  have HY3 := Lib.hid hY3
  have HW4 := Lib.hid hW4
  have Hb5 := Lib.hid hb5
  have HC := Lib.hid (hC.below hb5)
  have HD := Lib.hid (hD.below hb5)
  have HZ5 := Lib.hid (HZ.out.below hb5 HZ.out.lt)
  have HB5 := Lib.hid (HB.out.trans (hb5.mono hsz2))
  have HY5 := Lib.hid (Blk.range hY5)
  have HW5 := Lib.hid (Blk.range hW5)
  have Hw3 := Lib.hid hw3
  have Hw5 := Lib.hid hw5
  clear hw3 hw5 hY3 hW3 hb3 hkY hY4 hW4 hb4 hkW hW5 hY5 hb5 hC hD hb2
  go_upto_region 2 with (first | (refine wpList_alloc0 rfl 37 rfl (sgV 0 none 0 0 none 0 0).toArray _ i37 hi37 hz37 rfl ?_; simp only [Act.put, List.setIfInBounds_toArray, List.set_cons_succ, List.set_cons_zero]) | (refine wpList_alloc0 rfl 28 rfl (secV sc0).toArray _ i28 hi28 hz28 rfl ?_; simp only [Act.put, List.setIfInBounds_toArray, List.set_cons_succ, List.set_cons_zero, World.size_alloc]; rw [← Hw3.out]) | (refine wpList_store_row rfl 37 (.tmp 5) (.tmp 12) rfl w2.heap.size (sgV S.1.i C n c D m d).toArray rfl rfl 37 _ HY3.out (size37 _ rfl) rfl (sg_one _ _ _ _ _ _ _) ?_) | (refine wpList_store_row rfl 28 (.tmp 6) (.tmp 13) rfl (w2.heap.size + 1) (secV S.2.1).toArray rfl rfl 28 _ HW4.out (size28 _ (sec_size _)) ((sec_size _).trans (sec_size _).symm) (sec_one _) ?_; rw [← Hw5.out]))
  go_wp2_with (first | (refine wpList_load_mid rfl 37 (.tmp 5) rfl w2.heap.size 0 rfl (sgV S.1.i C n c D m d) d37 HY5.out hd37 hrow37 (by rw [sgV_len]; kernel_rfl) ?_) | (refine wpList_load_mid rfl 28 (.tmp 6) rfl (w2.heap.size + 1) 0 rfl (secV S.2.1) d28 HW5.out hd28 hrow28 (by rw [secV_len]; kernel_rfl) ?_) | (refine wpList_buildN rfl 39 _ rfl [(0, .agg (sgV S.1.i C n c D m d).toArray), (1, .agg (secV S.2.1).toArray), (2, .int .i64 S.2.2)] rfl _ (built39t _ _ _ _ _ _ _ _ _) ?_) | (refine wpList_store_row rfl 39 (.tmp 4) (.tmp 18) rfl (w.heap.size + 1) (sgnV S.1.i C n c D m d S.2.1 S.2.2).toArray rfl rfl 39 _ HZ5.out (size39 _ (sgn_size _ _ _ _ _ _ _ _ _)) ((sgn_size _ _ _ _ _ _ _ _ _).trans (sgn_size _ _ _ _ _ _ _ _ _).symm) (sgn_one _ _ _ _ _ _ _ _ _) ?_))
  refine bodyPost_ret (results_cell_row rfl _ _ (w.heap.size + 1) 39 (sgnV S.1.i C n c D m d S.2.1 S.2.2).toArray (0, 0) _ rfl (setRow_heap _ _ _ _ _ _ HZ5.out) hd39 (by cases d39 <;> first | rfl | exact hrow39) (size39 _ (sgn_size _ _ _ _ _ _ _ _ _))) rfl ⟨⟨C, n, c, D, m, d, rfl, hnc, hmd, ?_, ?_⟩, Below.setRow HB5.out (by omega) _⟩
  · exact HC.out.kept HZ5.out (by decide) ((KeptIn.refl (fun b => b ≠ w.heap.size + 1) w5).setRow (g := w.heap.size + 1) (fun h => h rfl) _)
  · exact HD.out.kept HZ5.out (by decide) ((KeptIn.refl (fun b => b ≠ w.heap.size + 1) w5).setRow (g := w.heap.size + 1) (fun h => h rfl) _)
set_option maxRecDepth 100000 in
set_option maxHeartbeats 1000000 in
theorem Same16_any (i1 i2 : Int) (C1 D1 C2 D2 : Option Addr) (n1 c1 m1 d1 n2 c2 m2 d2 : Nat) (ch1 pa1 ch2 pa2 : List Sum32) (w : World) (h1 : Rd w 32 C1 n1 (ch1.flatMap sumC)) (h2 : Rd w 32 D1 m1 (pa1.flatMap sumC)) (h3 : Rd w 32 C2 n2 (ch2.flatMap sumC)) (h4 : Rd w 32 D2 m2 (pa2.flatMap sumC)) (l1 : n1 ≤ 1000) (l2 : m1 ≤ 1000) (l3 : n2 ≤ 1000) (l4 : m2 ≤ 1000) :
    Calls Tryd.prog 21 #[.agg (sgV i1 C1 n1 c1 D1 m1 d1).toArray, .agg (sgV i2 C2 n2 c2 D2 m2 d2).toArray] w fun e w' => e = .returned (.bool (decide (i1 = i2 ∧ ch1 = ch2 ∧ pa1 = pa2))) ∧ Below w.heap.size w w' := by
  obtain ⟨R, hR⟩ : ∃ R, R = decide (i1 = i2 ∧ ch1 = ch2 ∧ pa1 = pa2) := ⟨_, rfl⟩
  rw [← hR]
  have HR := Lib.hid hR
  clear hR
  go_enter Tryd.func21, Tryd.ntmps21
  go_upto_region 1 with fail
  obtain ⟨w1, hw1⟩ : ∃ w1, w1 = (w.alloc (.cells (sgV i1 C1 n1 c1 D1 m1 d1).toArray 37)).alloc (.cells (sgV i2 C2 n2 c2 D2 m2 d2).toArray 37) := ⟨_, rfl⟩
  have hB1 : Below w.heap.size w w1 := by rw [hw1]; exact ((Below.refl _ _).alloc (Nat.le_refl _) _).alloc (by simp) _
  have hX1 : Blk w1 w.heap.size 37 (sgV i1 C1 n1 c1 D1 m1 d1).toArray := by rw [hw1]; exact (Blk.new _ _ _).alloc _
  have hY1 : Blk w1 (w.heap.size + 1) 37 (sgV i2 C2 n2 c2 D2 m2 d2).toArray := by
    have := Blk.new (w.alloc (.cells (sgV i1 C1 n1 c1 D1 m1 d1).toArray 37)) 37 (sgV i2 C2 n2 c2 D2 m2 d2).toArray
    rw [World.size_alloc] at this
    rw [hw1]; exact this
  rw [← hw1]
  try simp only [World.size_alloc]
  clear hw1
  have hsz1 := hB1.size
  have a0 : w1.cell? ⟨w.heap.size, 0, none⟩ = some (.int .i64 i1) := by rw [hX1.cell]; rfl
  have a1 : w1.cell? ⟨w.heap.size, 1, none⟩ = some (.slice C1 n1 c1) := by rw [hX1.cell]; rfl
  have a2 : w1.cell? ⟨w.heap.size, 2, none⟩ = some (.slice D1 m1 d1) := by rw [hX1.cell]; rfl
  have b0 : w1.cell? ⟨w.heap.size + 1, 0, none⟩ = some (.int .i64 i2) := by rw [hY1.cell]; rfl
  have b1 : w1.cell? ⟨w.heap.size + 1, 1, none⟩ = some (.slice C2 n2 c2) := by rw [hY1.cell]; rfl
  have b2 : w1.cell? ⟨w.heap.size + 1, 2, none⟩ = some (.slice D2 m2 d2) := by rw [hY1.cell]; rfl
  have HX := Lib.hid hX1
  have HY := Lib.hid hY1
  have HB := Lib.hid hB1
  have H1 := Lib.hid (h1.below hB1)
  have H2 := Lib.hid (h2.below hB1)
  have H3 := Lib.hid (h3.below hB1)
  have H4 := Lib.hid (h4.below hB1)
  clear hX1 hY1 hB1 h1 h2 h3 h4
  by_cases e0 : i1 = i2
  rotate_left
  · have g : (i1 == i2) = false := by rw [beq_eq_false_iff_ne]; exact e0
    have Hr := Lib.hid (show R = false by rw [HR.out]; exact decide_eq_false (fun h => e0 h.1))
    clear e0
    go_wp2_with fail
    go_ret
    exact ⟨by rw [Hr.out]; rfl, HB.out⟩
  have g : (i1 == i2) = true := by rw [beq_iff_eq]; exact e0
  have E0 := Lib.hid e0
  clear e0
  go_wp2_with fail
  refine (SameSums_any C1 C2 n1 n2 c1 c2 ch1 ch2 w1 H1.out H3.out l1 l3).mono ?_
  rintro e w2 ⟨rfl, hb2⟩
  have hX2 := HX.out.below hb2 HX.out.lt
  have hY2 := HY.out.below hb2 HY.out.lt
  have a2 : w2.cell? ⟨w.heap.size, 2, none⟩ = some (.slice D1 m1 d1) := by rw [hX2.cell]; rfl
  have b2 : w2.cell? ⟨w.heap.size + 1, 2, none⟩ = some (.slice D2 m2 d2) := by rw [hY2.cell]; rfl
  have HB2 := Lib.hid (HB.out.trans (hb2.mono hsz1))
  have H5 := Lib.hid (H2.out.below hb2)
  have H6 := Lib.hid (H4.out.below hb2)
  clear hX2 hY2 hb2 a0 a1 b0 b1 g
  by_cases e1 : ch1 = ch2
  rotate_left
  · have g : decide (ch1 = ch2) = false := decide_eq_false e1
    rw [g]
    have Hr := Lib.hid (show R = false by rw [HR.out]; exact decide_eq_false (fun h => e1 h.2.1))
    clear e1 g
    go_wp2_with fail
    go_ret
    exact ⟨by rw [Hr.out]; rfl, HB2.out⟩
  have g : decide (ch1 = ch2) = true := decide_eq_true e1
  rw [g]
  have Hr := Lib.hid (show R = decide (pa1 = pa2) by rw [HR.out]; simp [E0.out, e1])
  clear e1 g
  go_wp2_with fail
  refine (SameSums_any D1 D2 m1 m2 d1 d2 pa1 pa2 w2 H5.out H6.out l2 l4).mono ?_
  rintro e w3 ⟨rfl, hb3⟩
  have HB3 := Lib.hid (HB2.out.trans (hb3.mono HB2.out.size))
  rw [← Hr.out]
  clear hb3 Hr
  go_wp2_with fail
  go_ret
  exact ⟨rfl, HB3.out⟩
end Go.Proofs.YtfdhiilhjfbehaaDoor
