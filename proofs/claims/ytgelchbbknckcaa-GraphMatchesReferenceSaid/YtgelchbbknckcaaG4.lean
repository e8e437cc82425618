/- Package graph's reference: equality of lists and of results, which needs fit, which are right; the order of lists. -/
import Derived.Test.YtgelchbbknckcaaG3
import Derived.Test.YtgelchbbknckcaaGW
namespace Go.Proofs.Ytgelchbbknckcaa
open Go.RowKit Go.Sort

set_option maxRecDepth 100000 in
set_option maxHeartbeats 1000000 in
theorem Ints_any (A B : Option Addr) (n m c d : Nat) (xs ys : List Int) (w : World) (hx : Rd w 1 A n (xs.map intV)) (hy : Rd w 1 B m (ys.map intV)) :
    Calls Try.prog 14 #[.slice A n c, .slice B m d] w fun e w' => e = .returned (.bool (decide (xs = ys))) ∧ Below w.heap.size w w' := by
  have hxl := hx.len1
  have hyl := hy.len1
  have hnl := hx.le
  have hml := hy.le
  go_enter Try.func14, Try.ntmps14
  by_cases hnm : n = m
  · subst hnm
    have Hx := Lib.hid hx
    have Hy := Lib.hid hy
    have Hxl := Lib.hid hxl
    have Hyl := Lib.hid hyl
    clear hx hy hxl hyl
    go_wp2_with fail
    go_loopw [5] (fun v5 wr => ∃ k : Nat, k ≤ n ∧ v5 = .int .i64 (k : Int) ∧ xs.take k = ys.take k ∧ Below w.heap.size w wr) (fun v5 _ => n - (intOf v5).toNat)
    case atStart => exact ⟨0, by omega, rfl, rfl, Below.refl _ _⟩
    case round =>
      obtain ⟨k, hk, rfl, hpre, hB⟩ := hrel
      by_cases hlt : k < n
      · obtain ⟨b, off, x, rfl, hxk, cx⟩ := (Hx.out.below hB).at_ hlt
        obtain ⟨b', off', y, rfl, hyk, cy⟩ := (Hy.out.below hB).at_ hlt
        have cx' : wr.cell? ⟨b, off + k, none⟩ = some (.int .i64 x) := cx
        have cy' : wr.cell? ⟨b', off' + k, none⟩ = some (.int .i64 y) := cy
        have htk := take_succ_eq hxk hyk
        have HB := Lib.hid hB
        have Hpre := Lib.hid hpre
        by_cases hxy : x = y
        · have Hs := Lib.hid (htk.2 ⟨hpre, hxy⟩)
          subst hxy
          have hd2 : (x != x) = false := by simp
          clear cx cy hB hpre htk hxk hyk
          go_upto_region 6 with fail
          go_quiet (fail)
          have hBq := below_drewN HB.out nq
          have HBq := Lib.hid hBq
          clear hBq
          generalize wr.drewN nq = wq at *
          go_wp2_with fail
          exact ⟨⟨k + 1, by omega, by go_num, Hs.out, HBq.out⟩, by simp [intOf]; omega⟩
        · have hne : xs ≠ ys := fun e => hxy (by rw [e, hyk] at hxk; exact (Option.some.inj hxk).symm)
          have Hv := Lib.hid (decide_eq_false hne)
          have hd : (x == y) = false := by rw [beq_eq_false_iff_ne]; exact hxy
          have hd2 : (x != y) = true := by rw [bne, hd]; rfl
          clear cx cy hB hpre htk hxk hyk hne
          go_upto_region 6 with fail
          go_quiet (fail)
          have hBq := below_drewN HB.out nq
          have HBq := Lib.hid hBq
          clear hBq
          generalize wr.drewN nq = wq at *
          go_wp2_with fail
          go_ret
          exact ⟨by rw [Hv.out]; rfl, HBq.out⟩
      · have he : xs = ys := by
          rw [List.take_of_length_le (by have := Hxl.out; omega), List.take_of_length_le (by have := Hyl.out; omega)] at hpre
          exact hpre
        have Hv := Lib.hid (decide_eq_true he)
        have HB := Lib.hid hB
        clear hpre he hB
        go_wp2_with fail
        go_ret
        exact ⟨by rw [Hv.out]; rfl, HB.out⟩
  · have hne : xs ≠ ys := fun e => hnm (by rw [← hxl, ← hyl, e])
    have Hv := Lib.hid (decide_eq_false hne)
    have hd : ((n : Int) == (m : Int)) = false := by rw [beq_eq_false_iff_ne]; omega
    clear hx hy hxl hyl hne
    go_wp2_with fail
    go_ret
    exact ⟨by rw [Hv.out]; rfl, Below.refl _ _⟩

/-- A result: the links of a way, its cost, the error. -/
def rsV (A : Option Addr) (n c : Nat) (k e : Int) : List Value := [.slice A n c, .int .i64 k, .int .i64 e]
set_option maxRecDepth 100000 in
set_option maxHeartbeats 1000000 in
theorem Same_any (A B : Option Addr) (n m c d : Nat) (xs ys : List Int) (k l e f : Int) (w : World) (hx : Rd w 1 A n (xs.map intV)) (hy : Rd w 1 B m (ys.map intV)) :
    Calls Try.prog 17 #[.agg (rsV A n c k e).toArray, .agg (rsV B m d l f).toArray] w fun r w' => r = .returned (.bool (decide (xs = ys ∧ k = l ∧ e = f))) ∧ Below w.heap.size w w' := by
  obtain ⟨R, hR⟩ : ∃ R, R = decide (xs = ys) := ⟨_, rfl⟩
  have hr : decide (xs = ys ∧ k = l ∧ e = f) = (R && decide (k = l) && decide (e = f)) := by rw [hR]; simp [Bool.decide_and, Bool.and_assoc]
  rw [hr]
  have hi := Ints_any A B n m c d xs ys
  rw [← hR] at hi
  have Hi := Lib.hid hi
  clear hR hr hi
  go_enter Try.func17, Try.ntmps17
  go_upto_region 1 with fail
  try simp only [World.size_alloc]
  obtain ⟨w1, hw1⟩ : ∃ v, v = (w.alloc (.cells (rsV A n c k e).toArray 44)).alloc (.cells (rsV B m d l f).toArray 44) := ⟨_, rfl⟩
  have hB : Below w.heap.size w w1 := by rw [hw1]; exact ((Below.refl _ _).alloc (Nat.le_refl _) _).alloc (by simp) _
  have hC : Blk w1 w.heap.size 44 (rsV A n c k e).toArray := by rw [hw1]; exact (Blk.new _ _ _).alloc _
  have hD : Blk w1 (w.heap.size + 1) 44 (rsV B m d l f).toArray := by
    have := Blk.new (w.alloc (.cells (rsV A n c k e).toArray 44)) 44 (rsV B m d l f).toArray
    rw [World.size_alloc] at this
    rw [hw1]; exact this
  rw [← hw1]
  clear hw1
  have a0 : w1.cell? ⟨w.heap.size, 0, none⟩ = some (.slice A n c) := by rw [hC.cell]; rfl
  have b0 : w1.cell? ⟨w.heap.size + 1, 0, none⟩ = some (.slice B m d) := by rw [hD.cell]; rfl
  have HC := Lib.hid hC
  have HD := Lib.hid hD
  have HB := Lib.hid hB
  have Hf := Lib.hid (Hi.out w1 (hx.below hB) (hy.below hB))
  clear hC hD hB hx hy Hi
  go_wp2_with fail
  refine Hf.out.mono ?_
  rintro _ w2 ⟨rfl, hb2⟩
  have hC2 := HC.out.below hb2 HC.out.lt
  have hD2 := HD.out.below hb2 HD.out.lt
  have a1 : w2.cell? ⟨w.heap.size, 1, none⟩ = some (.int .i64 k) := by rw [hC2.cell]; rfl
  have b1 : w2.cell? ⟨w.heap.size + 1, 1, none⟩ = some (.int .i64 l) := by rw [hD2.cell]; rfl
  have a2 : w2.cell? ⟨w.heap.size, 2, none⟩ = some (.int .i64 e) := by rw [hC2.cell]; rfl
  have b2 : w2.cell? ⟨w.heap.size + 1, 2, none⟩ = some (.int .i64 f) := by rw [hD2.cell]; rfl
  have HB2 := Lib.hid (HB.out.trans (hb2.mono HB.out.size))
  clear hb2 HC HD HB Hf hC2 hD2 a0 b0
  cases R with
  | false =>
    go_wp2_with fail
    go_ret
    exact ⟨by simp, HB2.out⟩
  | true =>
    by_cases hkl : k = l
    · subst hkl
      by_cases hef : e = f
      · subst hef
        go_wp2_with fail
        go_ret
        exact ⟨by simp, HB2.out⟩
      · have hd : (e == f) = false := by rw [beq_eq_false_iff_ne]; exact hef
        have Hef := Lib.hid hef
        clear hef
        go_wp2_with fail
        go_ret
        exact ⟨by simp [Hef.out], HB2.out⟩
    · have hd : (k == l) = false := by rw [beq_eq_false_iff_ne]; exact hkl
      have Hkl := Lib.hid hkl
      clear hkl
      go_wp2_with fail
      go_ret
      exact ⟨by simp [Hkl.out], HB2.out⟩
set_option maxRecDepth 100000 in
set_option maxHeartbeats 2000000 in
theorem RFits_any (n m : Nd) (w : World) : Calls Try.prog 21 #[.agg (ndV n).toArray, .agg (ndV m).toArray] w fun e w' => e = .returned (.bool (fitsB n m)) ∧ Below w.heap.size w w' := by
  obtain ⟨i77, hi77, hz77, hs77, hy77⟩ := info_parts info77
  obtain ⟨d28, hd28, hrow28⟩ := und28
  obtain ⟨R, hR⟩ : ∃ R, R = fitsB n m := ⟨_, rfl⟩
  have hyes : (∀ k, k < 5 → n.at k ≤ m.at k) → R = true := fun h => by rw [hR]; exact fits_yes h
  have hno : ∀ k, k < 5 → ¬ n.at k ≤ m.at k → R = false := fun k hk h => by rw [hR]; exact fits_no hk h
  rw [← hR]
  have Hyes := Lib.hid hyes
  have Hno := Lib.hid hno
  clear hR hyes hno
  go_enter Try.func21, Try.ntmps21
  go_upto_region 1 with fail
  try simp only [World.size_alloc]
  obtain ⟨w1, hw1⟩ : ∃ v, v = (w.alloc (.cells (ndV n).toArray 28)).alloc (.cells (ndV m).toArray 28) := ⟨_, rfl⟩
  have hB : Below w.heap.size w w1 := by rw [hw1]; exact ((Below.refl _ _).alloc (Nat.le_refl _) _).alloc (by simp) _
  have hC : Blk w1 w.heap.size 28 (ndV n).toArray := by rw [hw1]; exact (Blk.new _ _ _).alloc _
  have hD : Blk w1 (w.heap.size + 1) 28 (ndV m).toArray := by
    have := Blk.new (w.alloc (.cells (ndV n).toArray 28)) 28 (ndV m).toArray
    rw [World.size_alloc] at this
    rw [hw1]; exact this
  rw [← hw1]
  clear hw1
  have hrc : ∀ w', Ext w1 w' → w'.rangeAt w.heap.size 0 (ndV n) := fun w' hw' => Blk.range (hC.below (ext_below hw') hC.lt)
  have hrd : ∀ w', Ext w1 w' → w'.rangeAt (w.heap.size + 1) 0 (ndV m) := fun w' hw' => Blk.range (hD.below (ext_below hw') hD.lt)
  have Hrc := Lib.hid hrc
  have Hrd := Lib.hid hrd
  have HB := Lib.hid hB
  clear hC hD hB hrc hrd
  go_cut [5, 6] from 8 to 11 (fun t5 t6 wx => ∃ B5 B6 : Nat, t5 = .pointer (some ⟨B5, 0, none⟩) ∧ t6 = .pointer (some ⟨B6, 0, none⟩) ∧ Blk wx B5 77 (ndV n).toArray ∧ Blk wx B6 77 (ndV m).toArray ∧ Below w1.heap.size w1 wx)
  case first =>
    refine wp_region_reads_tail 6 [0, 2] 4 (by kernel_rfl) (List.take_append_drop _ _) rfl (by kernel_rfl) (by kernel_rfl) (by kernel_rfl) (by decide) (by kernel_rfl) (by kernel_rfl) (fun _ _ d _ _ h => by cases d <;> exact h) (by kernel_rfl) (by kernel_rfl) rfl ?_
    simp only [List.take_succ_cons, List.take_zero, List.drop_succ_cons, List.drop_zero, pickOps, List.getElem?_cons_zero, List.getElem?_cons_succ]
    refine wpQuiet_load_mid rfl 28 _ rfl w.heap.size 0 rfl (ndV n) _ Hrc.out hd28 hrow28 (by rw [ndV_len]; kernel_rfl) ?_
    simp only [Act.put, List.setIfInBounds_toArray, List.set_cons_succ, List.set_cons_zero]
    refine wpQuiet_load_mid rfl 28 _ rfl (w.heap.size + 1) 0 rfl (ndV m) _ Hrd.out hd28 hrow28 (by rw [ndV_len]; kernel_rfl) ?_
    simp only [Act.put, List.setIfInBounds_toArray, List.set_cons_succ, List.set_cons_zero]
    refine wpQuiet_nil ?_
    refine web2_start0 (fs := [floVar 4 5 77 (ndV nd0).toArray, floVar 5 6 77 (ndV nd0).toArray]) [.act 1 [], .act 3 []] _ _ (by kernel_rfl) (fun _ _ d _ _ h => by cases d <;> exact h) ⟨⟨_, rfl, flo_var rfl rfl rfl _ i77 hi77 hz77 rfl⟩, ⟨_, rfl, flo_var rfl rfl rfl _ i77 hi77 hz77 rfl⟩, trivial⟩ (by decide) (by decide) (by kernel_rfl) (by kernel_rfl) (ext_drew (ext_refl _)) (by intro F hF; simp at hF; rcases hF with rfl | rfl <;> simp) 4 (by decide) (by kernel_rfl) ?_
    intro v1 W hW _ o ho K hK
    cases ho
    have hbW : Below w1.heap.size w1 W := ((Below.refl _ w1).drew).trans hW
    simp only [putS, List.foldl_cons, List.foldl_nil, Act.put, List.setIfInBounds_toArray, List.set_cons_succ, List.set_cons_zero]
    have Hf := Lib.hid (Rfields_any n W)
    unfold StepP
    go_simp
    refine Hf.out.mono ?_
    rintro e W2 ⟨rfl, hb2⟩
    refine hK _ _ (by intro F hF; simp at hF; rcases hF with rfl | rfl <;> exact ⟨rfl, by simp []⟩) hb2 ?_
    have hb2 := hbW.trans (hb2.mono hbW.size)
    clear hK K Hf hW
    intro v2 W3 hW3 _ o ho K hK
    cases ho
    have hb3 := hb2.trans (hW3.mono hb2.size)
    simp only [putS, List.foldl_cons, List.foldl_nil, Act.put, List.setIfInBounds_toArray, List.set_cons_succ, List.set_cons_zero]
    have Hf := Lib.hid (Rfields_any m W3)
    unfold StepP
    go_simp
    refine Hf.out.mono ?_
    rintro e W4 ⟨rfl, hb4⟩
    refine hK _ _ (by intro F hF; simp at hF; rcases hF with rfl | rfl <;> exact ⟨rfl, by simp []⟩) hb4 ?_
    have hb4 := hb3.trans (hb4.mono hb3.size)
    clear hK K Hf hW3
    intro v3 W5 hW5 hall hdist
    have hb5 := hb4.trans (hW5.mono hb4.size)
    obtain ⟨B5, hv5, hw5, hblk5⟩ := hall (floVar 4 5 77 (ndV nd0).toArray) (by simp) (floVar 4 5 77 (ndV nd0).toArray) (by simp) rfl
    obtain ⟨B6, hv6, hw6, hblk6⟩ := hall (floVar 5 6 77 (ndV nd0).toArray) (by simp) (floVar 5 6 77 (ndV nd0).toArray) (by simp) rfl
    have hne : B6 ≠ B5 := fun e => by
      obtain ⟨β, hβ, hd⟩ := hdist
      have q5 := hβ (floVar 4 5 77 (ndV nd0).toArray) (by simp)
      have q6 := hβ (floVar 5 6 77 (ndV nd0).toArray) (by simp)
      have hq := hd (floVar 4 5 77 (ndV nd0).toArray) (by simp) (floVar 5 6 77 (ndV nd0).toArray) (by simp) (by decide)
      rw [hv5] at q5
      rw [hv6] at q6
      simp at q5 q6 hq
      omega
    have hv5' : v3 4 = .pointer (some ⟨B5, 0, none⟩) := hv5
    have hv6' : v3 5 = .pointer (some ⟨B6, 0, none⟩) := hv6
    have hK5 := (KeptIn.refl (fun k => k ≠ B5) W5).setRow (g := B5) (fun h => h rfl) (ndV n).toArray
    have hK6 := (KeptIn.refl (fun k => k ≠ B6) (W5.setRow B5 (ndV n).toArray)).setRow (g := B6) (fun h => h rfl) (ndV m).toArray
    have f1 : Blk (W5.setRow B5 (ndV n).toArray) B5 77 (ndV n).toArray := setRow_heap _ _ _ _ _ _ hblk5
    have f2 : Blk (W5.setRow B5 (ndV n).toArray) B6 77 (ndV nd0).toArray := hblk6.keptIn hK5 hne
    have f3 : Blk ((W5.setRow B5 (ndV n).toArray).setRow B6 (ndV m).toArray) B6 77 (ndV m).toArray := setRow_heap _ _ _ _ _ _ f2
    have f4 : Blk ((W5.setRow B5 (ndV n).toArray).setRow B6 (ndV m).toArray) B5 77 (ndV n).toArray := f1.keptIn hK6 (fun e => hne e.symm)
    have f5 := Below.setRow (Below.setRow hb5 hw5 (ndV n).toArray) hw6 (ndV m).toArray
    simp only [Exit.then, putS, List.foldl_cons, List.foldl_nil, Act.put, List.setIfInBounds_toArray, List.set_cons_succ, List.set_cons_zero]
    rw [hv5', hv6']
    refine wpList_store_row rfl 77 (.tmp 5) (.tmp 9) rfl B5 (ndV n).toArray rfl rfl 77 (ndV nd0).toArray hblk5 (size77 _ rfl) rfl (nd_one _) ?_
    refine wpList_store_row rfl 77 (.tmp 6) (.tmp 11) rfl B6 (ndV m).toArray rfl rfl 77 (ndV nd0).toArray f2 (size77 _ rfl) rfl (nd_one _) ?_
    refine wpList_nil ?_
    have F3 := Lib.hid f3
    have F4 := Lib.hid f4
    have F5' := Lib.hid f5
    clear f1 f2 f3 f4 f5 hK5 hK6 hv5 hv6 hv5' hv6' hblk5 hblk6 hall hdist hW5 hb5 hb4 hb3 hb2 hbW
    go_wp2_with fail
    go_meet
    exact ⟨B5, B6, rfl, rfl, F4.out, F3.out, F5'.out⟩
  case' rest => skip
  obtain ⟨B5, B6, rfl, rfl, h5, h6, hb2⟩ := hcut
  obtain ⟨w2, hw2⟩ : ∃ v, v = wc := ⟨_, rfl⟩
  subst hw2
  have H5 := Lib.hid h5
  have H6 := Lib.hid h6
  have HB2 := Lib.hid (HB.out.trans (hb2.mono HB.out.size))
  clear h5 h6 hb2 HB Hrc Hrd
  go_wp2_with fail
  go_loopw [7] (fun v7 wr => ∃ k : Nat, v7 = .int .i64 (k : Int) ∧ k ≤ 5 ∧ (∀ j, j < k → n.at j ≤ m.at j) ∧ Below w2.heap.size w2 wr) (fun v7 _ => 5 - (intOf v7).toNat)
  case atStart => exact ⟨0, rfl, by omega, fun j h => absurd h (Nat.not_lt_zero _), Below.refl _ _⟩
  case round =>
    obtain ⟨k, rfl, hk, hall, hB⟩ := hrel
    have Hall := Lib.hid hall
    have HBr := Lib.hid hB
    clear hall hB
    by_cases hlt : k < 5
    · have ck := nd_cell (H5.out.below HBr.out H5.out.lt) hlt
      have dk := nd_cell (H6.out.below HBr.out H6.out.lt) hlt
      by_cases hle : n.at k ≤ m.at k
      · have hall' : ∀ j, j < k + 1 → n.at j ≤ m.at j := fun j hj => by
          by_cases hjk : j = k
          · subst hjk; exact hle
          · exact Hall.out j (by omega)
        have Hall' := Lib.hid hall'
        clear Hall hall'
        go_upto_region 5 with fail
        go_quiet (fail)
        have HBq := Lib.hid (below_drewN HBr.out nq)
        clear ck dk
        generalize wr.drewN nq = wq at *
        go_wp2_with fail
        exact ⟨⟨k + 1, by go_num, by omega, Hall'.out, HBq.out⟩, by simp [intOf]; omega⟩
      · have Hv := Lib.hid (Hno.out k hlt (by omega))
        have hle' : m.at k < n.at k := by omega
        clear hle
        go_upto_region 5 with fail
        go_quiet (fail)
        have HBq := Lib.hid (below_drewN (HB2.out.trans (HBr.out.mono HB2.out.size)) nq)
        clear ck dk
        generalize wr.drewN nq = wq at *
        go_wp2_with fail
        go_ret
        exact ⟨by rw [Hv.out]; rfl, HBq.out⟩
    · obtain rfl : k = 5 := by omega
      have Hv := Lib.hid (Hyes.out Hall.out)
      have HBe := Lib.hid (HB2.out.trans (HBr.out.mono HB2.out.size))
      go_wp2_with fail
      go_ret
      exact ⟨by rw [Hv.out]; rfl, HBe.out⟩

theorem ndM_at {k : Nat} (hk : k < 5) : ndM.at k = 1000000 := by
  rcases (by omega : k = 0 ∨ k = 1 ∨ k = 2 ∨ k = 3 ∨ k = 4) with rfl | rfl | rfl | rfl | rfl <;> rfl
theorem right_yes {n : Nd} (h : ∀ k, k < 5 → 0 ≤ n.at k ∧ n.at k ≤ 1000000) : rightB n = true := by
  unfold rightB
  rw [fits_yes (fun k hk => by rw [nd0_at]; exact (h k hk).1), fits_yes (fun k hk => by rw [ndM_at hk]; exact (h k hk).2)]; rfl
theorem right_no {n : Nd} {k : Nat} (hk : k < 5) (h : ¬ (0 ≤ n.at k ∧ n.at k ≤ 1000000)) : rightB n = false := by
  unfold rightB
  by_cases h0 : 0 ≤ n.at k
  · rw [fits_no (n := n) (m := ndM) hk (by rw [ndM_at hk]; omega), Bool.and_false]
  · rw [fits_no (n := nd0) (m := n) hk (by rw [nd0_at]; exact h0), Bool.false_and]
set_option maxRecDepth 100000 in
set_option maxHeartbeats 1000000 in
theorem RRight_any (n : Nd) (w : World) : Calls Try.prog 35 #[.agg (ndV n).toArray] w fun e w' => e = .returned (.bool (rightB n)) ∧ Below w.heap.size w w' := by
  obtain ⟨i77, hi77, hz77, hs77, hy77⟩ := info_parts info77
  obtain ⟨d28, hd28, hrow28⟩ := und28
  obtain ⟨R, hR⟩ : ∃ R, R = rightB n := ⟨_, rfl⟩
  have hyes : (∀ k, k < 5 → 0 ≤ n.at k ∧ n.at k ≤ 1000000) → R = true := fun h => by rw [hR]; exact right_yes h
  have hno : ∀ k, k < 5 → ¬ (0 ≤ n.at k ∧ n.at k ≤ 1000000) → R = false := fun k hk h => by rw [hR]; exact right_no hk h
  rw [← hR]
  have Hyes := Lib.hid hyes
  have Hno := Lib.hid hno
  clear hR hyes hno
  go_enter Try.func35, Try.ntmps35
  go_upto_region 1 with fail
  obtain ⟨w1, hw1⟩ : ∃ v, v = w.alloc (.cells (ndV n).toArray 28) := ⟨_, rfl⟩
  have hB : Below w.heap.size w w1 := by rw [hw1]; exact (Below.refl _ _).alloc (Nat.le_refl _) _
  have hC : Blk w1 w.heap.size 28 (ndV n).toArray := by rw [hw1]; exact Blk.new _ _ _
  rw [← hw1]
  clear hw1
  have HC := Lib.hid hC
  have HB := Lib.hid hB
  have Hf := Lib.hid (Rfields_any n w1)
  clear hC hB
  go_upto_region 2 with (refine wpList_load_mid rfl 28 (.tmp 1) rfl w.heap.size 0 rfl (ndV n) d28 (Blk.range HC.out) hd28 hrow28 (by rw [ndV_len]; kernel_rfl) ?_)
  refine Hf.out.mono ?_
  rintro e w2 ⟨rfl, hb2⟩
  have HB2 := Lib.hid (HB.out.trans (hb2.mono HB.out.size))
  clear hb2 HC HB Hf
  have hn_ : Blk (w2.alloc (.cells (ndV nd0).toArray 77)) w2.heap.size 77 (ndV nd0).toArray := Blk.new _ _ _
  have Hn_ := Lib.hid hn_
  clear hn_
  go_upto_region 2 with (first | (refine wpList_alloc0 rfl 77 rfl (ndV nd0).toArray _ i77 hi77 hz77 rfl ?_; simp only [Act.put, List.setIfInBounds_toArray, List.set_cons_succ, List.set_cons_zero]) | (refine wpList_store_row rfl 77 (.tmp 3) (.tmp 6) rfl w2.heap.size (ndV n).toArray rfl rfl 77 (ndV nd0).toArray Hn_.out (size77 _ rfl) rfl (nd_one _) ?_))
  obtain ⟨w3, hw3⟩ : ∃ v, v = (w2.alloc (.cells (ndV nd0).toArray 77)).setRow w2.heap.size (ndV n).toArray := ⟨_, rfl⟩
  have hb3 : Below w2.heap.size w2 w3 := by rw [hw3]; exact Below.setRow ((Below.refl _ _).alloc (Nat.le_refl _) _) (Nat.le_refl _) _
  have hL3 : Blk w3 w2.heap.size 77 (ndV n).toArray := by rw [hw3]; exact setRow_heap _ _ _ _ _ _ Hn_.out
  rw [← hw3]
  clear hw3 Hn_
  obtain ⟨lb, hlb⟩ : ∃ v, v = w2.heap.size := ⟨_, rfl⟩
  rw [← hlb] at hL3 ⊢
  clear hlb
  have HL3 := Lib.hid hL3
  have HB3 := Lib.hid (HB2.out.trans (hb3.mono HB2.out.size))
  clear hL3 hb3 HB2
  go_wp2_with fail
  go_loopw [4] (fun v4 wr => ∃ k : Nat, v4 = .int .i64 (k : Int) ∧ k ≤ 5 ∧ (∀ j, j < k → 0 ≤ n.at j ∧ n.at j ≤ 1000000) ∧ wr = w3) (fun v4 _ => 5 - (intOf v4).toNat)
  case atStart => exact ⟨0, rfl, by omega, fun j h => absurd h (Nat.not_lt_zero _), rfl⟩
  case round =>
    obtain ⟨k, rfl, hk, hall, rfl⟩ := hrel
    have Hall := Lib.hid hall
    clear hall
    by_cases hlt : k < 5
    · have ck := nd_cell HL3.out hlt
      have hI := In_any (n.at k) 0 1000000 wr
      by_cases hle : 0 ≤ n.at k ∧ n.at k ≤ 1000000
      · have hall' : ∀ j, j < k + 1 → 0 ≤ n.at j ∧ n.at j ≤ 1000000 := fun j hj => by
          by_cases hjk : j = k
          · subst hjk; exact hle
          · exact Hall.out j (by omega)
        have Hall' := Lib.hid hall'
        rw [decide_eq_true hle] at hI
        have HI := Lib.hid hI
        clear Hall hall' hI hle
        go_wp2_with fail
        refine HI.out.mono ?_
        rintro e w' ⟨rfl, hw⟩
        subst hw
        clear HI ck
        go_wp2_with fail
        exact ⟨⟨k + 1, by go_num, by omega, Hall'.out, trivial⟩, by simp [intOf]; omega⟩
      · have Hv := Lib.hid (Hno.out k hlt hle)
        rw [decide_eq_false hle] at hI
        have HI := Lib.hid hI
        clear hI hle
        go_wp2_with fail
        refine HI.out.mono ?_
        rintro e w' ⟨rfl, hw⟩
        subst hw
        clear HI ck
        go_wp2_with fail
        go_ret
        exact ⟨by rw [Hv.out]; rfl, HB3.out⟩
    · obtain rfl : k = 5 := by omega
      have Hv := Lib.hid (Hyes.out Hall.out)
      go_wp2_with fail
      go_ret
      exact ⟨by rw [Hv.out]; rfl, HB3.out⟩

/-- The order of lists of numbers. -/
def cmpI (x y : Int) : Int := if x < y then -1 else if y < x then 1 else 0
def cmpLI : List Int → List Int → Int
  | [], [] => 0
  | [], _ :: _ => -1
  | _ :: _, [] => 1
  | a :: us, b :: vs => if cmpI a b ≠ 0 then cmpI a b else cmpLI us vs
theorem cmpLI_drop {xs ys : List Int} {k : Nat} {x y : Int} (hx : xs[k]? = some x) (hy : ys[k]? = some y) : cmpLI (xs.drop k) (ys.drop k) = if cmpI x y ≠ 0 then cmpI x y else cmpLI (xs.drop (k + 1)) (ys.drop (k + 1)) := by
  obtain ⟨l1, e1⟩ := List.getElem?_eq_some_iff.1 hx
  obtain ⟨l2, e2⟩ := List.getElem?_eq_some_iff.1 hy
  rw [List.drop_eq_getElem_cons l1, List.drop_eq_getElem_cons l2, e1, e2]
  rfl
theorem cmpLI_more {xs ys : List Int} {k : Nat} (hx : k < xs.length) (hy : ys.length ≤ k) : cmpLI (xs.drop k) (ys.drop k) = 1 := by
  rw [List.drop_eq_getElem_cons hx, List.drop_of_length_le hy]; rfl
theorem cmpLI_end {xs ys : List Int} {k : Nat} (hx : xs.length ≤ k) : cmpLI (xs.drop k) (ys.drop k) = if k < ys.length then -1 else 0 := by
  rw [List.drop_of_length_le hx]
  by_cases h : k < ys.length
  · rw [if_pos h, List.drop_eq_getElem_cons h]; rfl
  · rw [if_neg h, List.drop_of_length_le (by omega)]; rfl
set_option maxRecDepth 100000 in
set_option maxHeartbeats 1000000 in
theorem CmpL_any (A B : Option Addr) (n m c d : Nat) (xs ys : List Int) (w : World) (hx : Rd w 1 A n (xs.map intV)) (hy : Rd w 1 B m (ys.map intV)) :
    Calls Try.prog 45 #[.slice A n c, .slice B m d] w fun e w' => e = .returned (.int .i64 (cmpLI xs ys)) ∧ w' = w := by
  have hxl := hx.len1
  have hyl := hy.len1
  have hnl := hx.le
  have hml := hy.le
  obtain ⟨R, hR⟩ : ∃ R, R = cmpLI xs ys := ⟨_, rfl⟩
  rw [← hR]
  have HR := Lib.hid hR
  have Hx := Lib.hid hx
  have Hy := Lib.hid hy
  have Hxl := Lib.hid hxl
  have Hyl := Lib.hid hyl
  clear hR hx hy hxl hyl
  go_enter Try.func45, Try.ntmps45
  go_wp2_with fail
  go_loopw [11] (fun v11 wr => ∃ k : Nat, v11 = .int .i64 (k : Int) ∧ k ≤ n ∧ k ≤ m ∧ cmpLI (xs.drop k) (ys.drop k) = R ∧ wr = w) (fun v11 _ => n - (intOf v11).toNat)
  case atStart => exact ⟨0, rfl, by omega, by omega, by rw [HR.out]; rfl, rfl⟩
  case round =>
    obtain ⟨k, rfl, hk, hkm, hrest, rfl⟩ := hrel
    by_cases hlt : k < n
    · obtain ⟨b, off, x, rfl, hxk, cx⟩ := Hx.out.at_ hlt
      have cx' : wr.cell? ⟨b, off + k, none⟩ = some (.int .i64 x) := cx
      by_cases hltm : k < m
      · obtain ⟨b', off', y, rfl, hyk, cy⟩ := Hy.out.at_ hltm
        have cy' : wr.cell? ⟨b', off' + k, none⟩ = some (.int .i64 y) := cy
        have hI := CmpN_any x y wr
        rw [show (if x < y then (-1 : Int) else if y < x then 1 else 0) = cmpI x y from rfl] at hI
        rw [cmpLI_drop hxk hyk] at hrest
        obtain ⟨q, hq⟩ : ∃ q, q = cmpI x y := ⟨_, rfl⟩
        rw [← hq] at hrest hI
        have HI := Lib.hid hI
        have Hrest := Lib.hid hrest
        clear hI hrest hq cx cy hxk hyk
        go_wp2_with fail
        refine HI.out.mono ?_
        rintro e w' ⟨rfl, hw⟩
        subst hw
        clear HI cx' cy'
        by_cases hq0 : q = 0
        · subst hq0
          have hr2 := Hrest.out
          rw [if_neg (by simp)] at hr2
          have Hr2 := Lib.hid hr2
          clear hr2
          go_wp2_with fail
          exact ⟨⟨k + 1, by go_num, by omega, by omega, Hr2.out, trivial⟩, by simp [intOf]; omega⟩
        · have hd : (q == 0) = false := by rw [beq_eq_false_iff_ne]; exact hq0
          have hd2 : (q != 0) = true := by rw [bne, hd]; rfl
          have hr2 := Hrest.out
          rw [if_pos hq0] at hr2
          have Hr2 := Lib.hid hr2
          clear hr2 hq0
          go_wp2_with fail
          go_ret
          exact ⟨by rw [← Hr2.out]; rfl, rfl⟩
      · rw [cmpLI_more (by have := Hxl.out; omega) (by have := Hyl.out; omega)] at hrest
        have Hrest := Lib.hid hrest
        have hd : decide ((m : Int) ≤ (k : Int)) = true := decide_eq_true (by omega)
        have hd2 : decide (m ≤ k) = true := decide_eq_true (by omega)
        clear hrest hltm cx
        go_wp2_with fail
        go_ret
        exact ⟨by rw [← Hrest.out]; rfl, rfl⟩
    · rw [cmpLI_end (by have := Hxl.out; omega)] at hrest
      have hd : decide ((k : Int) < (n : Int)) = false := decide_eq_false (by omega)
      have hd2 : decide (k < n) = false := decide_eq_false hlt
      by_cases hnm : n < m
      · rw [if_pos (by have := Hyl.out; omega)] at hrest
        have Hrest := Lib.hid hrest
        clear hrest hlt
        go_wp2_with fail
        go_ret
        exact ⟨by rw [← Hrest.out]; rfl, rfl⟩
      · rw [if_neg (by have := Hyl.out; omega)] at hrest
        have Hrest := Lib.hid hrest
        clear hrest hlt
        go_wp2_with fail
        go_ret
        exact ⟨by rw [← Hrest.out]; rfl, rfl⟩
end Go.Proofs.Ytgelchbbknckcaa
