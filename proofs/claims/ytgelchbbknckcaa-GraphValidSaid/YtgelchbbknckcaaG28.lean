/- The law GraphValid. -/
import Derived.Test.YtgelchbbknckcaaG22
import Derived.Test.YtgelchbbknckcaaG27
namespace Go.Proofs.Ytgelchbbknckcaa
open Go.RowKit Go.Sort

theorem ORd.mk_ {w : World} {b b' : Nat} {e : TypeId} {sz n : Nat} {A : Option Addr} {xs : List Value} (h : ORd w b' e sz A n xs) (hb : b ≤ b') : ORd w b e sz A n xs := ⟨h.1, fun hn p off e => Nat.le_trans hb (h.2 hn p off e)⟩
def ptC (lb o : Nat) : List Value := offs.map fun x => .pointer (some ⟨lb, o + x, none⟩)
theorem size55 (cs : Array Value) (h : cs.size = 6) : (Try.prog.info? 55).map (·.size) = some cs.size := by rw [h]; kernel_rfl
theorem pt_one (lb o : Nat) : (ptC lb o).toArray.all (·.oneCell') = true := all_oneCell_toArray fun v hv => by
  unfold ptC at hv
  obtain ⟨i, _, rfl⟩ := List.mem_map.1 hv
  rfl
theorem built55 (lb o : Nat) : Try.prog.built 55 [(0, .pointer (some ⟨lb, o, none⟩)), (1, .pointer (some ⟨lb, o + 1, none⟩)), (2, .pointer (some ⟨lb, o + 2, none⟩)), (3, .pointer (some ⟨lb, o + 3, none⟩)), (4, .pointer (some ⟨lb, o + 3 + 1, none⟩)), (5, .pointer (some ⟨lb, o + 3 + 4, none⟩))] = some (ptC lb o).toArray := by kernel_rfl
theorem info55 : (Try.prog.info? 55).map (fun i => (i.zero, i.size, i.bytes)) = some (some (.agg (List.replicate 6 (.pointer none)).toArray), 6, 48) := by kernel_rfl

set_option maxRecDepth 100000 in
set_option maxHeartbeats 4000000 in
theorem GraphValid_any (A0 : Option Addr) (n0 c0 : Nat) (B0 : Option Addr) (m0 d0 : Nat) (vs : List Int) (ls : List Ln) (A : Option Addr) (n c : Nat) (B : Option Addr) (m d : Nat) (xs : List UInt8) (ys : List R6) (y0 y1 : Int) (w : World) (hr0 : Rd w 1 A0 n0 (vs.map intV)) (hl0 : Rd w 8 B0 m0 (ls.flatMap lnV)) (hr : Rd w 1 A n (xs.map byteV)) (hl : Rd w 6 B m (ys.flatMap r6V)) (_hy0 : -2147483648 ≤ y0 ∧ y0 ≤ 2147483647) (hy1 : -2147483648 ≤ y1 ∧ y1 ≤ 2147483647) :
    Calls Try.prog 4 #[.agg (grV A0 n0 c0 B0 m0 d0).toArray, .agg (grV A n c B m d).toArray, .agg #[.int .i32 y0, .int .i32 y1]] w fun e w' => e = .returned (.bool true) ∧ Below w.heap.size w w' := by
  obtain ⟨i33, hi33, hz33, hs33, hy33⟩ := info_parts info33
  obtain ⟨i55, hi55, hz55, hs55, hy55⟩ := info_parts info55
  obtain ⟨d25, hd25, hrow25⟩ := und25
  obtain ⟨d33, hd33, hrow33⟩ := und33
  have hxl := hr.len1
  obtain ⟨N, hN⟩ : ∃ N, N = min n 7 := ⟨_, rfl⟩
  obtain ⟨M, hM⟩ : ∃ M, M = madeM xs ys := ⟨_, rfl⟩
  obtain ⟨VS, hVS⟩ : ∃ VS, VS = verN xs (min n 7) := ⟨_, rfl⟩
  obtain ⟨LS, hLS⟩ : ∃ LS, LS = madeL xs ys := ⟨_, rfl⟩
  have hvb : validB VS LS = true := by rw [hVS, hLS, ← hxl]; exact made_valid xs ys
  have hVl : VS.length = N := by rw [hVS, hN, verN_len]
  have hLl : LS.length = M := by rw [hLS, hM, madeL_len]
  have hM14 : M ≤ 14 := by rw [hM]; exact madeM_le xs ys
  have hN7 : N ≤ 7 := by omega
  have hMade : ∀ W : World, Rd W 1 A n (xs.map byteV) → Rd W 6 B m (ys.flatMap r6V) → Calls Try.prog 12 #[.agg (grV A n c B m d).toArray] W fun e w' => (∃ A' c' B' d', e = .returned (.agg (grV A' N c' B' M d').toArray) ∧ ORd w' W.heap.size 3 1 A' N (VS.map intV) ∧ ORd w' W.heap.size 53 8 B' M (LS.flatMap lnV)) ∧ Below W.heap.size W w' := fun W h1 h2 => by
    rw [hN, hM, hVS, hLS]; exact Made_O A n c B m d xs ys W h1 h2
  have HMade := Lib.hid hMade
  have Hr := Lib.hid hr
  have Hl := Lib.hid hl
  have Hr0 := Lib.hid hr0
  have Hl0 := Lib.hid hl0
  have Hvb := Lib.hid hvb
  have HVl := Lib.hid hVl
  have HLl := Lib.hid hLl
  clear hr hl hr0 hl0 hvb hVl hLl hxl hN hM hVS hLS hMade
  go_enter Try.func4, Try.ntmps4
  go_upto_region 1 with fail
  try simp only [World.size_alloc]
  obtain ⟨v1, hv1⟩ : ∃ v, v = ((w.alloc (.cells (grV A0 n0 c0 B0 m0 d0).toArray 33)).alloc (.cells (grV A n c B m d).toArray 25)).alloc (.cells #[.int .i32 y0, .int .i32 y1] 48) := ⟨_, rfl⟩
  have hB : Below w.heap.size w v1 := by rw [hv1]; exact ((((Below.refl _ _).alloc (Nat.le_refl _) _).alloc (by simp) _).alloc (by simp; omega) _)
  have hC : Blk v1 (w.heap.size) 33 (grV A0 n0 c0 B0 m0 d0).toArray := by
    have := Blk.new w 33 (grV A0 n0 c0 B0 m0 d0).toArray
    rw [hv1]; exact ((this.alloc _).alloc _)
  have hD : Blk v1 (w.heap.size + 1) 25 (grV A n c B m d).toArray := by
    have := Blk.new (w.alloc (.cells (grV A0 n0 c0 B0 m0 d0).toArray 33)) 25 (grV A n c B m d).toArray
    rw [World.size_alloc] at this
    rw [hv1]; exact (this.alloc _)
  have hE : Blk v1 (w.heap.size + 1 + 1) 48 #[.int .i32 y0, .int .i32 y1] := by
    have := Blk.new ((w.alloc (.cells (grV A0 n0 c0 B0 m0 d0).toArray 33)).alloc (.cells (grV A n c B m d).toArray 25)) 48 #[.int .i32 y0, .int .i32 y1]
    rw [World.size_alloc, World.size_alloc] at this
    rw [hv1]; exact this
  rw [← hv1]
  clear hv1
  have HC := Lib.hid hC
  have HD := Lib.hid hD
  have HE := Lib.hid hE
  have HB := Lib.hid hB
  clear hC hD hE hB
  go_upto_region 2 with fail
  refine (sanity_any v1).mono ?_
  rintro e v2 ⟨rfl, hb2⟩
  replace HC := Lib.hid (HC.out.below hb2 HC.out.lt)
  replace HD := Lib.hid (HD.out.below hb2 HD.out.lt)
  replace HE := Lib.hid (HE.out.below hb2 HE.out.lt)
  replace HB := Lib.hid (HB.out.trans (hb2.mono HB.out.size))
  clear hb2
  replace Hr := Lib.hid (Hr.out.below HB.out)
  replace Hl := Lib.hid (Hl.out.below HB.out)
  replace Hr0 := Lib.hid (Hr0.out.below HB.out)
  replace Hl0 := Lib.hid (Hl0.out.below HB.out)
  go_upto_region 2 with fail
  have g0 : v2.cell? ⟨w.heap.size, 0, none⟩ = some (.slice A0 n0 c0) := by rw [HC.out.cell]; rfl
  have g1 : v2.cell? ⟨w.heap.size, 1, none⟩ = some (.slice B0 m0 d0) := by rw [HC.out.cell]; rfl
  by_cases h20 : 20 < n0
  · have z1 : decide ((20 : Int) < (n0 : Int)) = true := decide_eq_true (by omega)
    clear h20
    go_wp2_with fail
    go_ret
    exact ⟨rfl, HB.out⟩
  have z1 : decide ((20 : Int) < (n0 : Int)) = false := decide_eq_false (by omega)
  by_cases h70 : 70 < m0
  · have z2 : decide ((70 : Int) < (m0 : Int)) = true := decide_eq_true (by omega)
    clear h20 h70
    go_wp2_with fail
    go_ret
    exact ⟨rfl, HB.out⟩
  have z2 : decide ((70 : Int) < (m0 : Int)) = false := decide_eq_false (by omega)
  clear h20 h70
  go_upto_region 4 with fail
  clear z1 z2 g0 g1
  have Hrg := Lib.hid (Blk.range HD.out)
  have Hmd := Lib.hid (HMade.out v2 Hr.out Hl.out)
  go_upto_region 5 with (refine wpList_load_mid rfl 25 (.tmp 4) rfl (w.heap.size + 1) 0 rfl (grV A n c B m d) d25 Hrg.out hd25 hrow25 (by rw [grV_len]; kernel_rfl) ?_)
  refine Hmd.out.mono ?_
  rintro e v3 ⟨⟨GA, gc, GB, gd, rfl, hov, hol⟩, hb3⟩
  have hle2 : w.heap.size ≤ v2.heap.size := HB.out.size
  have Hov := Lib.hid (ORd.mk_ hov hle2)
  have Hol := Lib.hid (ORd.mk_ hol hle2)
  clear hov hol hle2 Hmd Hrg HMade
  replace Hr0 := Lib.hid (Hr0.out.below hb3)
  replace Hl0 := Lib.hid (Hl0.out.below hb3)
  replace HC := Lib.hid (HC.out.below hb3 HC.out.lt)
  replace HE := Lib.hid (HE.out.below hb3 HE.out.lt)
  replace HB := Lib.hid (HB.out.trans (hb3.mono HB.out.size))
  clear hb3
  have hn_ : Blk (v3.alloc (.cells (grV none 0 0 none 0 0).toArray 33)) v3.heap.size 33 (grV none 0 0 none 0 0).toArray := Blk.new _ _ _
  have Hn_ := Lib.hid hn_
  clear hn_
  go_upto_region 5 with (first | (refine wpList_alloc0 rfl 33 rfl (grV none 0 0 none 0 0).toArray _ i33 hi33 hz33 rfl ?_; simp only [Act.put, List.setIfInBounds_toArray, List.set_cons_succ, List.set_cons_zero]) | (refine wpList_store_row rfl 33 (.tmp 8) (.tmp 25) rfl v3.heap.size (grV GA N gc GB M gd).toArray rfl rfl 33 (grV none 0 0 none 0 0).toArray Hn_.out (size33 _ rfl) rfl (gr_one _ _ _ _ _ _) ?_))
  obtain ⟨v4, hv4⟩ : ∃ v, v = (v3.alloc (.cells (grV none 0 0 none 0 0).toArray 33)).setRow v3.heap.size (grV GA N gc GB M gd).toArray := ⟨_, rfl⟩
  have hb4 : Below v3.heap.size v3 v4 := by rw [hv4]; exact Below.setRow ((Below.refl _ _).alloc (Nat.le_refl _) _) (Nat.le_refl _) _
  have HG := Lib.hid (show Blk v4 v3.heap.size 33 (grV GA N gc GB M gd).toArray by rw [hv4]; exact setRow_heap _ _ _ _ _ _ Hn_.out)
  rw [← hv4]
  clear hv4 Hn_
  obtain ⟨BG, hBG⟩ : ∃ v, v = v3.heap.size := ⟨_, rfl⟩
  rw [← hBG] at HG ⊢
  have HBGl := Lib.hid (show w.heap.size ≤ BG by rw [hBG]; exact HB.out.size)
  clear hBG
  replace Hov := Lib.hid (Hov.out.below hb4)
  replace Hol := Lib.hid (Hol.out.below hb4)
  replace Hr0 := Lib.hid (Hr0.out.below hb4)
  replace Hl0 := Lib.hid (Hl0.out.below hb4)
  replace HC := Lib.hid (HC.out.below hb4 HC.out.lt)
  replace HE := Lib.hid (HE.out.below hb4 HE.out.lt)
  replace HB := Lib.hid (HB.out.trans (hb4.mono HB.out.size))
  clear hb4
  obtain ⟨q, hq⟩ : ∃ q, q = validB vs ls := ⟨_, rfl⟩
  have Hq := Lib.hid hq
  clear hq
  simp only [Act.put]
  go_cut [35] from 26 to 35 (fun t35 wx => t35 = .bool false ∧ Below v4.heap.size v4 wx)
  case first =>
    refine wp_region_flowF [26, 27, 28, 29, 30, 31, 32, 33, 34, 35] [(Spec.is (.agg (grV GA N gc GB M gd).toArray), false), (Spec.is (.bool true), false), (Spec.is (.bool false), false), (Spec.is (.bool false), false), (Spec.is (.agg (grV A0 n0 c0 B0 m0 d0).toArray), false), (Spec.is (.bool q), false), (Spec.is (.agg (grV A0 n0 c0 B0 m0 d0).toArray), false), (Spec.is (.bool q), false), (Spec.is (.bool false), false), (Spec.is (.bool false), false)] 119 (by kernel_rfl) rfl (by decide) rfl (by decide) (by kernel_rfl) ?_ ?_
    · refine ⟨?_, ?_, ?_, ?_, ?_, ?_, ?_, ?_, ?_, ?_, trivial⟩
      · intro a W hE hb hs
        have h8 : a.eval (.tmp 8) = .pointer (some ⟨BG, 0, none⟩) := hb 8 (by decide)
        refine flow0 rfl ?_
        exact val_load_row 33 _ rfl BG 0 h8 (grV GA N gc GB M gd) d33 (Blk.range (HG.out.below (ext_below hE) HG.out.lt)) hd33 hrow33 (by rw [grV_len]; kernel_rfl) ⟨rfl, trivial⟩
      · intro a W hE hb hs
        have h26 : a.eval (.tmp 26) = .agg (grV GA N gc GB M gd).toArray := hs 0 (by decide)
        refine flow0 rfl ?_
        exact val_call 22 _ _ rfl (by kernel_rfl) [.agg (grV GA N gc GB M gd).toArray] (by show [a.eval (.tmp 26)] = _; rw [h26]) ((Valid_any _ _ _ _ _ _ VS LS W (Hov.out.1.rd.below (ext_below hE)) (Hol.out.1.rd.below (ext_below hE))).mono (by rintro e W' ⟨rfl, hb⟩; exact ⟨_, rfl, hb, congrArg Value.bool Hvb.out, trivial⟩))
      · intro a W hE hb hs
        have h27 : a.eval (.tmp 27) = .bool true := hs 1 (by decide)
        refine flow0 rfl ?_
        exact val_not _ _ rfl _ h27 ⟨rfl, trivial⟩
      · intro a W hE hb hs
        have h28 : a.eval (.tmp 28) = .bool false := hs 2 (by decide)
        refine flow0 rfl ?_
        exact val_move _ rfl _ h28 ⟨rfl, trivial⟩
      · intro a W hE hb hs
        have h29 : a.eval (.tmp 29) = .bool false := hs 3 (by decide)
        have h3 : a.eval (.tmp 3) = .pointer (some ⟨w.heap.size, 0, none⟩) := hb 3 (by decide)
        refine flowY rfl rfl h29 ?_
        exact val_load_row 33 _ rfl w.heap.size 0 h3 (grV A0 n0 c0 B0 m0 d0) d33 (Blk.range (HC.out.below (ext_below hE) HC.out.lt)) hd33 hrow33 (by rw [grV_len]; kernel_rfl) ⟨rfl, trivial⟩
      · intro a W hE hb hs
        have h29 : a.eval (.tmp 29) = .bool false := hs 3 (by decide)
        have h30 : a.eval (.tmp 30) = .agg (grV A0 n0 c0 B0 m0 d0).toArray := hs 4 (by decide)
        refine flowY rfl rfl h29 ?_
        exact val_call 22 _ _ rfl (by kernel_rfl) [.agg (grV A0 n0 c0 B0 m0 d0).toArray] (by show [a.eval (.tmp 30)] = _; rw [h30]) ((Valid_any _ _ _ _ _ _ vs ls W (Hr0.out.below (ext_below hE)) (Hl0.out.below (ext_below hE))).mono (by rintro e W' ⟨rfl, hb⟩; exact ⟨_, rfl, hb, congrArg Value.bool Hq.out.symm, trivial⟩))
      · intro a W hE hb hs
        have h29 : a.eval (.tmp 29) = .bool false := hs 3 (by decide)
        have h3 : a.eval (.tmp 3) = .pointer (some ⟨w.heap.size, 0, none⟩) := hb 3 (by decide)
        refine flowY rfl rfl h29 ?_
        exact val_load_row 33 _ rfl w.heap.size 0 h3 (grV A0 n0 c0 B0 m0 d0) d33 (Blk.range (HC.out.below (ext_below hE) HC.out.lt)) hd33 hrow33 (by rw [grV_len]; kernel_rfl) ⟨rfl, trivial⟩
      · intro a W hE hb hs
        have h29 : a.eval (.tmp 29) = .bool false := hs 3 (by decide)
        have h32 : a.eval (.tmp 32) = .agg (grV A0 n0 c0 B0 m0 d0).toArray := hs 6 (by decide)
        refine flowY rfl rfl h29 ?_
        exact val_call 23 _ _ rfl (by kernel_rfl) [.agg (grV A0 n0 c0 B0 m0 d0).toArray] (by show [a.eval (.tmp 32)] = _; rw [h32]) ((RValid_any _ _ _ _ _ _ vs ls W (Hr0.out.below (ext_below hE)) (Hl0.out.below (ext_below hE))).mono (by rintro e W' ⟨rfl, hb⟩; exact ⟨_, rfl, hb, congrArg Value.bool Hq.out.symm, trivial⟩))
      · intro a W hE hb hs
        have h29 : a.eval (.tmp 29) = .bool false := hs 3 (by decide)
        have h31 : a.eval (.tmp 31) = .bool q := hs 5 (by decide)
        have h33 : a.eval (.tmp 33) = .bool q := hs 7 (by decide)
        refine flowY rfl rfl h29 ?_
        intro K hK
        unfold Oper.wp execOp
        simp only [h31, h33]
        simp [go_sem]
        exact hK _ _ ⟨Below.refl _ _, rfl, trivial⟩
      · intro a W hE hb hs
        have h29 : a.eval (.tmp 29) = .bool false := hs 3 (by decide)
        have h34 : a.eval (.tmp 34) = .bool false := hs 8 (by decide)
        refine flow0 rfl ?_
        exact val_pick _ _ _ rfl false h29 _ (by rw [if_neg (by decide)]; exact h34) ⟨rfl, trivial⟩
    · intro f W hbW hT hp hd
      have hres : f 35 = .bool false := hT 9 (by decide)
      simp only [putV, List.foldl_cons, List.foldl_nil, Act.put, List.setIfInBounds_toArray, List.set_cons_succ, List.set_cons_zero, Exit.then]
      rw [hres]
      have Hend := Lib.hid hbW
      clear hT hp hd hres hbW
      go_wp2_with fail
      go_meet
      exact ⟨rfl, Hend.out⟩
  case' rest => skip
  obtain ⟨rfl, hbn⟩ := hcut
  obtain ⟨v5, h_⟩ : ∃ v, v = wc := ⟨_, rfl⟩
  subst h_
  replace Hov := Lib.hid (Hov.out.below hbn)
  replace Hol := Lib.hid (Hol.out.below hbn)
  clear Hr0 Hl0 HC Hq
  replace HG := Lib.hid (HG.out.below hbn HG.out.lt)
  replace HE := Lib.hid (HE.out.below hbn HE.out.lt)
  replace HB := Lib.hid (HB.out.trans (hbn.mono HB.out.size))
  clear hbn
  have k0 : v5.cell? ⟨w.heap.size + 1 + 1, 0, none⟩ = some (.int .i32 y0) := by rw [HE.out.cell]; rfl
  go_upto_region 7 with fail
  go_upto_region 8 with fail
  clear k0
  obtain ⟨K, hK⟩ : ∃ K : Nat, y0 % 4294967296 = (K : Int) := ⟨(y0 % 4294967296).toNat, by omega⟩
  have hKl : K < 4294967296 := by omega
  rw [hK]
  clear hK
  have k1 : v5.cell? ⟨w.heap.size + 1 + 1, 1, none⟩ = some (.int .i32 y1) := by rw [HE.out.cell]; rfl
  go_cut [47] from 39 to 47 (fun t47 wx => wx = v5 ∧ t47 = .bool (decide (0 < N) && decide (K % 8 < 2)))
  case first =>
    have g0 : v5.cell? ⟨BG, 0, none⟩ = some (.slice GA N gc) := by rw [HG.out.cell]; rfl
    by_cases hN0 : 0 < N
    · have z1 : decide ((0 : Int) < (N : Int)) = true := decide_eq_true (by omega)
      have z2 : decide ((K : Int) % 8 < 2) = decide (K % 8 < 2) := by rw [decide_eq_decide]; omega
      have z3 : decide (0 < N) = true := decide_eq_true hN0
      go_wp2_with fail
      go_meet
      exact ⟨rfl, by simp [z3]⟩
    · have z1 : decide ((0 : Int) < (N : Int)) = false := decide_eq_false (by omega)
      have z3 : decide (0 < N) = false := decide_eq_false hN0
      go_wp2_with fail
      go_meet
      exact ⟨rfl, by simp [z3]⟩
  case' rest => skip
  obtain ⟨rfl, rfl⟩ := hcut
  obtain ⟨v5, h_⟩ : ∃ v, v = wc := ⟨_, rfl⟩
  subst h_
  go_upto_if 47 with fail
  go_cut [47] from 48 to 60 (fun t47 wx => ∃ VX : List Int, VX.length = N ∧ Blk wx BG 33 (grV GA N gc GB M gd).toArray ∧ Blk wx (w.heap.size + 1 + 1) 48 #[.int .i32 y0, .int .i32 y1] ∧ ORd wx w.heap.size 3 1 GA N (VX.map intV) ∧ ORd wx w.heap.size 53 8 GB M (LS.flatMap lnV) ∧ Below w.heap.size w wx)
  case first =>
    obtain ⟨cv, hcv⟩ : ∃ b, b = (decide (0 < N) && decide (K % 8 < 2)) := ⟨_, rfl⟩
    rw [← hcv]
    cases cv with
    | false =>
      clear hcv
      go_wp2_with fail
      go_meet
      exact ⟨VS, HVl.out, HG.out, HE.out, Hov.out, Hol.out, HB.out⟩
    | true =>
      have hN0 : 0 < N := by
        have := hcv.symm
        rw [Bool.and_eq_true, decide_eq_true_eq] at this
        exact this.1
      clear hcv
      obtain ⟨vb, vo, ea, _⟩ := Hov.out.1.rd.2.2 hN0
      subst ea
      go_upto_region 9 with fail
      obtain ⟨qv, hqv⟩ : ∃ qv, qv = K / 8 % N := ⟨_, rfl⟩
      have hlt : qv < N := by rw [hqv]; exact Nat.mod_lt _ hN0
      have hq9 : ((K : Int) / 8).tmod (N : Int) = (qv : Int) := by rw [hqv, Int.tmod_eq_emod_of_nonneg (by omega)]; rfl
      have nz9 : N ≠ 0 := by omega
      have wu9 : IntKind.u32.wrap ((K : Int) / 8) = (K : Int) / 8 := by show ((K : Int) / 8) % 4294967296 = _; omega
      have wi9 : IntKind.i64.wrap ((K : Int) / 8) = (K : Int) / 8 := (IntWalk.i64_left _).trans (by unfold wrap64; omega)
      have wy9 : IntKind.i64.wrap y1 = y1 := (IntWalk.i64_left _).trans (by unfold wrap64; omega)
      clear hqv
      -- MARK9
      refine wp_region_flow_tail 13 [48, 49, 50, 51, 52, 53, 54, 55, 56, 57, 58, 59, 60] [(Spec.is (.pointer (some ⟨BG, 0, none⟩)), false), (Spec.is (.slice (some ⟨vb, vo, none⟩) N gc), false), (Spec.is (.int .u32 (K : Int)), false), (Spec.is (.int .u32 ((K : Int) / 8)), false), (Spec.is (.int .i64 ((K : Int) / 8)), false), (Spec.is (.pointer (some ⟨BG, 0, none⟩)), false), (Spec.is (.slice (some ⟨vb, vo, none⟩) N gc), false), (Spec.is (.int .i64 (N : Int)), false), (Spec.is (.int .i64 (qv : Int)), false), (Spec.is (.pointer (some ⟨w.heap.size + 1 + 1, 1, none⟩)), false), (Spec.is (.int .i32 y1), false), (Spec.is (.int .i64 y1), false), (Spec.is (.pointer (some ⟨vb, vo + qv, none⟩)), false)] 119 (by kernel_rfl) (List.take_append_drop _ _) rfl (by kernel_rfl) (by kernel_rfl) (by kernel_rfl) (by decide) (by kernel_rfl) (by kernel_rfl) (fun _ _ d _ _ h => by cases d <;> exact h) rfl (by decide) rfl (by decide) (by kernel_rfl) ?_ ?_
      · refine ⟨?_, ?_, ?_, ?_, ?_, ?_, ?_, ?_, ?_, ?_, ?_, ?_, ?_, trivial⟩
        · intro a W hE hb hs
          have h8 : a.eval (.tmp 8) = .pointer (some ⟨BG, 0, none⟩) := hb 8 (by decide)
          refine flow0 rfl ?_
          intro K hK
          unfold Oper.wp execOp
          simp only [h8]
          simp [go_sem]
          exact hK _ _ ⟨Below.refl _ _, rfl, trivial⟩
        · intro a W hE hb hs
          have h48 : a.eval (.tmp 48) = .pointer (some ⟨BG, 0, none⟩) := hs 0 (by decide)
          refine flow0 rfl ?_
          have g0 : W.cell? ⟨BG, 0, none⟩ = some (.slice (some ⟨vb, vo, none⟩) N gc) := by rw [(HG.out.below (ext_below hE) HG.out.lt).cell]; rfl
          intro K hK
          unfold Oper.wp execOp
          simp only [h48]
          simp [go_sem, g0]
          exact hK _ _ ⟨Below.refl _ _, rfl, trivial⟩
        · intro a W hE hb hs
          have h9 : a.eval (.tmp 9) = .int .u32 (K : Int) := hb 9 (by decide)
          refine flow0 rfl ?_
          exact val_move _ rfl _ h9 ⟨rfl, trivial⟩
        · intro a W hE hb hs
          have h50 : a.eval (.tmp 50) = .int .u32 (K : Int) := hs 2 (by decide)
          refine flow0 rfl ?_
          intro K hK
          unfold Oper.wp execOp
          simp only [h50, BigFrame.eval_const]
          simp [go_sem, wu9]
          exact hK _ _ ⟨Below.refl _ _, rfl, trivial⟩
        · intro a W hE hb hs
          have h51 : a.eval (.tmp 51) = .int .u32 ((K : Int) / 8) := hs 3 (by decide)
          refine flow0 rfl ?_
          intro K hK
          unfold Oper.wp execOp
          simp only [h51]
          simp [go_sem, wi9]
          exact hK _ _ ⟨Below.refl _ _, rfl, trivial⟩
        · intro a W hE hb hs
          have h8 : a.eval (.tmp 8) = .pointer (some ⟨BG, 0, none⟩) := hb 8 (by decide)
          refine flow0 rfl ?_
          intro K hK
          unfold Oper.wp execOp
          simp only [h8]
          simp [go_sem]
          exact hK _ _ ⟨Below.refl _ _, rfl, trivial⟩
        · intro a W hE hb hs
          have h53 : a.eval (.tmp 53) = .pointer (some ⟨BG, 0, none⟩) := hs 5 (by decide)
          refine flow0 rfl ?_
          have g0 : W.cell? ⟨BG, 0, none⟩ = some (.slice (some ⟨vb, vo, none⟩) N gc) := by rw [(HG.out.below (ext_below hE) HG.out.lt).cell]; rfl
          intro K hK
          unfold Oper.wp execOp
          simp only [h53]
          simp [go_sem, g0]
          exact hK _ _ ⟨Below.refl _ _, rfl, trivial⟩
        · intro a W hE hb hs
          have h54 : a.eval (.tmp 54) = .slice (some ⟨vb, vo, none⟩) N gc := hs 6 (by decide)
          refine flow0 rfl ?_
          exact val_len _ _ _ rfl Try.underlying30 _ _ _ h54 ⟨rfl, trivial⟩
        · intro a W hE hb hs
          have h52 : a.eval (.tmp 52) = .int .i64 ((K : Int) / 8) := hs 4 (by decide)
          have h55 : a.eval (.tmp 55) = .int .i64 (N : Int) := hs 7 (by decide)
          refine flow0 rfl ?_
          intro K hK
          unfold Oper.wp execOp
          simp only [h52, h55]
          simp [go_sem, nz9, hq9]
          exact hK _ _ ⟨Below.refl _ _, rfl, trivial⟩
        · intro a W hE hb hs
          have h5 : a.eval (.tmp 5) = .pointer (some ⟨w.heap.size + 1 + 1, 0, none⟩) := hb 5 (by decide)
          refine flow0 rfl ?_
          intro K hK
          unfold Oper.wp execOp
          simp only [h5, BigFrame.eval_const]
          simp [go_sem]
          exact hK _ _ ⟨Below.refl _ _, rfl, trivial⟩
        · intro a W hE hb hs
          have h57 : a.eval (.tmp 57) = .pointer (some ⟨w.heap.size + 1 + 1, 1, none⟩) := hs 9 (by decide)
          refine flow0 rfl ?_
          have g0 : W.cell? ⟨w.heap.size + 1 + 1, 1, none⟩ = some (.int .i32 y1) := by rw [(HE.out.below (ext_below hE) HE.out.lt).cell]; rfl
          intro K hK
          unfold Oper.wp execOp
          simp only [h57]
          simp [go_sem, g0]
          exact hK _ _ ⟨Below.refl _ _, rfl, trivial⟩
        · intro a W hE hb hs
          have h58 : a.eval (.tmp 58) = .int .i32 y1 := hs 10 (by decide)
          refine flow0 rfl ?_
          intro K hK
          unfold Oper.wp execOp
          simp only [h58]
          simp [go_sem, wy9]
          exact hK _ _ ⟨Below.refl _ _, rfl, trivial⟩
        · intro a W hE hb hs
          have h49 : a.eval (.tmp 49) = .slice (some ⟨vb, vo, none⟩) N gc := hs 1 (by decide)
          have h56 : a.eval (.tmp 56) = .int .i64 (qv : Int) := hs 8 (by decide)
          refine flow0 rfl ?_
          intro K hK
          unfold Oper.wp execOp
          simp only [h49, h56]
          simp [go_sem, hlt]
          exact hK _ _ ⟨Below.refl _ _, rfl, trivial⟩
      · intro f W hbW hT hp hd
        have e60 : f 60 = .pointer (some ⟨vb, vo + qv, none⟩) := hT 12 (by decide)
        have e59 : f 59 = .int .i64 y1 := hT 11 (by decide)
        simp only [List.drop_succ_cons, List.drop_zero]
        simp only [putV, List.foldl_cons, List.foldl_nil, Act.put, List.setIfInBounds_toArray, List.set_cons_succ, List.set_cons_zero]
        rw [e60, e59]
        have HN0 := Lib.hid hN0
        have hOv := Hov.out.below hbW
        have hfr := hOv.frozen (i := qv) hN0
        obtain ⟨cu, hcu⟩ := hOv.1.2 hN0 vb vo rfl
        have hcs : W.cell? ⟨vb, vo + qv, none⟩ = some (.int .i64 (VS.getD qv 0)) := by
          obtain ⟨_, _, e, hc⟩ := hOv.1.rd.2.2 hN0
          cases e
          exact hc qv _ (by rw [List.getElem?_map, List.getD_eq_getElem?_getD, List.getElem?_eq_getElem (by rw [HVl.out]; exact hlt)]; rfl)
        have hK0 := (KeptIn.refl (fun k => k ≠ vb) W).setAt (p := ⟨vb, vo + qv, none⟩) (fun h => h rfl) (.int .i64 y1)
        have hov2 := hOv.set (i := qv) (u := .int .i64 y1) hN0 (by rw [List.length_map, HVl.out]; exact hlt)
        rw [show (VS.map intV).set qv (.int .i64 y1) = (VS.set qv y1).map intV from by rw [List.map_set]; rfl] at hov2
        have Hov2 := Lib.hid hov2
        have hge := hOv.2 hN0 vb vo rfl
        have Hz := Lib.hid (show (VS.set qv y1).length = N by rw [List.length_set]; exact HVl.out)
        have Hol2 := Lib.hid ((Hol.out.below hbW).kept hcu (by decide) hK0)
        have HG2 := Lib.hid ((HG.out.below hbW HG.out.lt).keptIn hK0 ((HG.out.below hbW HG.out.lt).ne hcu (by decide)))
        have HE2 := Lib.hid ((HE.out.below hbW HE.out.lt).keptIn hK0 ((HE.out.below hbW HE.out.lt).ne hcu (by decide)))
        have HB2 := Lib.hid ((HB.out.trans (hbW.mono HB.out.size)).setCell (p := ⟨vb, vo + qv, none⟩) hge (.int .i64 y1))
        clear hT hp hd hcu hK0 hov2 hge hOv hbW e60 e59 hN0
        -- MARKC
        go_wp2_with fail
        go_meet
        exact ⟨VS.set qv y1, Hz.out, HG2.out, HE2.out, Hov2.out, Hol2.out, HB2.out⟩
  case' rest => skip
  obtain ⟨VX, hVX, gG, gE, gv, gl, gB⟩ := hcut
  obtain ⟨v6, h_⟩ : ∃ v, v = wc := ⟨_, rfl⟩
  subst h_
  have HVX := Lib.hid hVX
  replace HG := Lib.hid gG
  replace HE := Lib.hid gE
  replace Hov := Lib.hid gv
  replace Hol := Lib.hid gl
  replace HB := Lib.hid gB
  clear hVX gG gE gv gl gB k1
  go_upto_region 10 with fail
  go_cut [69] from 61 to 69 (fun t69 wx => wx = v6 ∧ t69 = .bool (decide (0 < M) && decide (2 ≤ K % 8)))
  case first =>
    have g1 : v6.cell? ⟨BG, 1, none⟩ = some (.slice GB M gd) := by rw [HG.out.cell]; rfl
    by_cases hM0 : 0 < M
    · have z1 : decide ((0 : Int) < (M : Int)) = true := decide_eq_true (by omega)
      have z2 : decide (2 ≤ (K : Int) % 8) = decide (2 ≤ K % 8) := by rw [decide_eq_decide]; omega
      have z3 : decide (0 < M) = true := decide_eq_true hM0
      go_wp2_with fail
      go_meet
      exact ⟨rfl, by simp [z3]⟩
    · have z1 : decide ((0 : Int) < (M : Int)) = false := decide_eq_false (by omega)
      have z3 : decide (0 < M) = false := decide_eq_false hM0
      go_wp2_with fail
      go_meet
      exact ⟨rfl, by simp [z3]⟩
  case' rest => skip
  obtain ⟨rfl, rfl⟩ := hcut
  obtain ⟨v6, h_⟩ : ∃ v, v = wc := ⟨_, rfl⟩
  subst h_
  go_upto_if 69 with fail
  -- MARKD
  go_cut [69] from 70 to 110 (fun t69 wx => ∃ LX : List Ln, Blk wx BG 33 (grV GA N gc GB M gd).toArray ∧ ORd wx w.heap.size 3 1 GA N (VX.map intV) ∧ ORd wx w.heap.size 53 8 GB M (LX.flatMap lnV) ∧ Below w.heap.size w wx)
  case first =>
    obtain ⟨cv, hcv⟩ : ∃ b, b = (decide (0 < M) && decide (2 ≤ K % 8)) := ⟨_, rfl⟩
    rw [← hcv]
    cases cv with
    | false =>
      clear hcv
      go_wp2_with fail
      go_meet
      exact ⟨LS, HG.out, Hov.out, Hol.out, HB.out⟩
    | true =>
      obtain ⟨hM0, hk2⟩ : 0 < M ∧ 2 ≤ K % 8 := by
        have := hcv.symm
        rw [Bool.and_eq_true, decide_eq_true_eq, decide_eq_true_eq] at this
        exact this
      clear hcv
      obtain ⟨lb, lo, ea, _⟩ := Hol.out.1.rd.2.2 hM0
      subst ea
      go_upto_region 11 with fail
      obtain ⟨qv, hqv⟩ : ∃ qv, qv = K / 8 % M := ⟨_, rfl⟩
      have hlt : qv < M := by rw [hqv]; exact Nat.mod_lt _ hM0
      have hq9 : ((K : Int) / 8).tmod (M : Int) = (qv : Int) := by rw [hqv, Int.tmod_eq_emod_of_nonneg (by omega)]; rfl
      have nz9 : M ≠ 0 := by omega
      have wu9 : IntKind.u32.wrap ((K : Int) / 8) = (K : Int) / 8 := by show ((K : Int) / 8) % 4294967296 = _; omega
      have wi9 : IntKind.i64.wrap ((K : Int) / 8) = (K : Int) / 8 := (IntWalk.i64_left _).trans (by unfold wrap64; omega)
      have wy9 : IntKind.i64.wrap y1 = y1 := (IntWalk.i64_left _).trans (by unfold wrap64; omega)
      clear hqv
      go_cut [10] from 70 to 79 (fun t10 wx => t10 = .pointer (some ⟨lb, lo + qv * 8, none⟩) ∧ Below v6.heap.size v6 wx)
      case first =>
        refine wp_region_flowF [70, 71, 72, 73, 74, 75, 76, 77, 78, 79, 10] [(Spec.is (.pointer (some ⟨BG, 1, none⟩)), false), (Spec.is (.slice (some ⟨lb, lo, none⟩) M gd), false), (Spec.is (.int .u32 (K : Int)), false), (Spec.is (.int .u32 ((K : Int) / 8)), false), (Spec.is (.int .i64 ((K : Int) / 8)), false), (Spec.is (.pointer (some ⟨BG, 1, none⟩)), false), (Spec.is (.slice (some ⟨lb, lo, none⟩) M gd), false), (Spec.is (.int .i64 (M : Int)), false), (Spec.is (.int .i64 (qv : Int)), false), (Spec.is (.pointer (some ⟨lb, lo + qv * 8, none⟩)), false), (Spec.is (.pointer (some ⟨lb, lo + qv * 8, none⟩)), false)] 119 (by kernel_rfl) rfl (by decide) rfl (by decide) (by kernel_rfl) ?_ ?_
        · refine ⟨?_, ?_, ?_, ?_, ?_, ?_, ?_, ?_, ?_, ?_, ?_, trivial⟩
          · intro a W hE hb hs
            have h8 : a.eval (.tmp 8) = .pointer (some ⟨BG, 0, none⟩) := hb 8 (by decide)
            refine flow0 rfl ?_
            intro K hK
            unfold Oper.wp execOp
            simp only [h8]
            simp [go_sem]
            exact hK _ _ ⟨Below.refl _ _, rfl, trivial⟩
          · intro a W hE hb hs
            have h70 : a.eval (.tmp 70) = .pointer (some ⟨BG, 1, none⟩) := hs 0 (by decide)
            refine flow0 rfl ?_
            have g0 : W.cell? ⟨BG, 1, none⟩ = some (.slice (some ⟨lb, lo, none⟩) M gd) := by rw [(HG.out.below (ext_below hE) HG.out.lt).cell]; rfl
            intro K hK
            unfold Oper.wp execOp
            simp only [h70]
            simp [go_sem, g0]
            exact hK _ _ ⟨Below.refl _ _, rfl, trivial⟩
          · intro a W hE hb hs
            have h9 : a.eval (.tmp 9) = .int .u32 (K : Int) := hb 9 (by decide)
            refine flow0 rfl ?_
            exact val_move _ rfl _ h9 ⟨rfl, trivial⟩
          · intro a W hE hb hs
            have h72 : a.eval (.tmp 72) = .int .u32 (K : Int) := hs 2 (by decide)
            refine flow0 rfl ?_
            intro K hK
            unfold Oper.wp execOp
            simp only [h72, BigFrame.eval_const]
            simp [go_sem, wu9]
            exact hK _ _ ⟨Below.refl _ _, rfl, trivial⟩
          · intro a W hE hb hs
            have h73 : a.eval (.tmp 73) = .int .u32 ((K : Int) / 8) := hs 3 (by decide)
            refine flow0 rfl ?_
            intro K hK
            unfold Oper.wp execOp
            simp only [h73]
            simp [go_sem, wi9]
            exact hK _ _ ⟨Below.refl _ _, rfl, trivial⟩
          · intro a W hE hb hs
            have h8 : a.eval (.tmp 8) = .pointer (some ⟨BG, 0, none⟩) := hb 8 (by decide)
            refine flow0 rfl ?_
            intro K hK
            unfold Oper.wp execOp
            simp only [h8]
            simp [go_sem]
            exact hK _ _ ⟨Below.refl _ _, rfl, trivial⟩
          · intro a W hE hb hs
            have h75 : a.eval (.tmp 75) = .pointer (some ⟨BG, 1, none⟩) := hs 5 (by decide)
            refine flow0 rfl ?_
            have g0 : W.cell? ⟨BG, 1, none⟩ = some (.slice (some ⟨lb, lo, none⟩) M gd) := by rw [(HG.out.below (ext_below hE) HG.out.lt).cell]; rfl
            intro K hK
            unfold Oper.wp execOp
            simp only [h75]
            simp [go_sem, g0]
            exact hK _ _ ⟨Below.refl _ _, rfl, trivial⟩
          · intro a W hE hb hs
            have h76 : a.eval (.tmp 76) = .slice (some ⟨lb, lo, none⟩) M gd := hs 6 (by decide)
            refine flow0 rfl ?_
            exact val_len _ _ _ rfl Try.underlying31 _ _ _ h76 ⟨rfl, trivial⟩
          · intro a W hE hb hs
            have h74 : a.eval (.tmp 74) = .int .i64 ((K : Int) / 8) := hs 4 (by decide)
            have h77 : a.eval (.tmp 77) = .int .i64 (M : Int) := hs 7 (by decide)
            refine flow0 rfl ?_
            intro K hK
            unfold Oper.wp execOp
            simp only [h74, h77]
            simp [go_sem, nz9, hq9]
            exact hK _ _ ⟨Below.refl _ _, rfl, trivial⟩
          · intro a W hE hb hs
            have h71 : a.eval (.tmp 71) = .slice (some ⟨lb, lo, none⟩) M gd := hs 1 (by decide)
            have h78 : a.eval (.tmp 78) = .int .i64 (qv : Int) := hs 8 (by decide)
            refine flow0 rfl ?_
            intro K hK
            unfold Oper.wp execOp
            simp only [h71, h78]
            simp [go_sem, hlt]
            exact hK _ _ ⟨Below.refl _ _, rfl, trivial⟩
          · intro a W hE hb hs
            have h79 : a.eval (.tmp 79) = .pointer (some ⟨lb, lo + qv * 8, none⟩) := hs 9 (by decide)
            refine flow0 rfl ?_
            exact val_assign _ rfl _ h79 ⟨rfl, trivial⟩
        · intro f W hbW hT hp hd
          have hres : f 10 = .pointer (some ⟨lb, lo + qv * 8, none⟩) := hT 10 (by decide)
          simp only [putV, List.foldl_cons, List.foldl_nil, Act.put, List.setIfInBounds_toArray, List.set_cons_succ, List.set_cons_zero, Exit.then]
          rw [hres]
          have Hend := Lib.hid hbW
          clear hT hp hd hres hbW
          go_wp2_with fail
          go_meet
          exact ⟨rfl, Hend.out⟩
      case' rest => skip
      obtain ⟨rfl, hbn⟩ := hcut
      obtain ⟨v7, h_⟩ : ∃ v, v = wc := ⟨_, rfl⟩
      subst h_
      replace HG := Lib.hid (HG.out.below hbn HG.out.lt)
      replace HE := Lib.hid (HE.out.below hbn HE.out.lt)
      replace Hov := Lib.hid (Hov.out.below hbn)
      replace Hol := Lib.hid (Hol.out.below hbn)
      replace HB := Lib.hid (HB.out.trans (hbn.mono HB.out.size))
      clear hbn
      clear hq9 nz9 wu9 wi9
      obtain ⟨o, ho⟩ : ∃ o, o = lo + qv * 8 := ⟨_, rfl⟩
      rw [← ho]
      have Ho := Lib.hid ho
      clear ho
      go_upto_region 12 with fail
      -- MARKE
      go_cut [11] from 80 to 101 (fun t11 wx => ∃ BP, t11 = .pointer (some ⟨BP, 0, none⟩) ∧ Blk wx BP 55 (ptC lb o).toArray ∧ Below v7.heap.size v7 wx)
      case first =>
        refine wp_region_flow_tail 23 [80, 81, 82, 83, 84, 85, 86, 87, 88, 89, 90, 91, 92, 93, 94, 95, 96, 97, 98, 99, 100, 101, 11] [(Spec.is (.pointer (some ⟨lb, o, none⟩)), false), (Spec.is (.pointer (some ⟨lb, o, none⟩)), false), (Spec.is (.pointer (some ⟨lb, o, none⟩)), false), (Spec.is (.pointer (some ⟨lb, o, none⟩)), false), (Spec.is (.pointer (some ⟨lb, o, none⟩)), false), (Spec.is (.pointer (some ⟨lb, o + 1, none⟩)), false), (Spec.is (.pointer (some ⟨lb, o, none⟩)), false), (Spec.is (.pointer (some ⟨lb, o, none⟩)), false), (Spec.is (.pointer (some ⟨lb, o + 2, none⟩)), false), (Spec.is (.pointer (some ⟨lb, o, none⟩)), false), (Spec.is (.pointer (some ⟨lb, o, none⟩)), false), (Spec.is (.pointer (some ⟨lb, o + 3, none⟩)), false), (Spec.is (.pointer (some ⟨lb, o + 3, none⟩)), false), (Spec.is (.pointer (some ⟨lb, o, none⟩)), false), (Spec.is (.pointer (some ⟨lb, o, none⟩)), false), (Spec.is (.pointer (some ⟨lb, o + 3, none⟩)), false), (Spec.is (.pointer (some ⟨lb, o + 3 + 1, none⟩)), false), (Spec.is (.pointer (some ⟨lb, o, none⟩)), false), (Spec.is (.pointer (some ⟨lb, o, none⟩)), false), (Spec.is (.pointer (some ⟨lb, o + 3, none⟩)), false), (Spec.is (.pointer (some ⟨lb, o + 3 + 4, none⟩)), false), (Spec.is (.agg (ptC lb o).toArray), false), (spVar 55 (List.replicate 6 (Value.pointer none)).toArray, true)] 119 (by kernel_rfl) (List.take_append_drop _ _) rfl (by kernel_rfl) (by kernel_rfl) (by kernel_rfl) (by decide) (by kernel_rfl) (by kernel_rfl) (fun _ _ d _ _ h => by cases d <;> exact h) rfl (by decide) rfl (by decide) (by kernel_rfl) ?_ ?_
        · refine ⟨?_, ?_, ?_, ?_, ?_, ?_, ?_, ?_, ?_, ?_, ?_, ?_, ?_, ?_, ?_, ?_, ?_, ?_, ?_, ?_, ?_, ?_, ?_, trivial⟩
          · intro a W hE hb hs
            have h10 : a.eval (.tmp 10) = .pointer (some ⟨lb, o, none⟩) := hb 10 (by decide)
            refine flow0 rfl ?_
            exact val_move _ rfl _ h10 ⟨rfl, trivial⟩
          · intro a W hE hb hs
            have h80 : a.eval (.tmp 80) = .pointer (some ⟨lb, o, none⟩) := hs 0 (by decide)
            refine flow0 rfl ?_
            intro K hK
            unfold Oper.wp execOp
            simp only [h80]
            simp [go_sem]
            exact hK _ _ ⟨Below.refl _ _, rfl, trivial⟩
          · intro a W hE hb hs
            have h81 : a.eval (.tmp 81) = .pointer (some ⟨lb, o, none⟩) := hs 1 (by decide)
            refine flow0 rfl ?_
            intro K hK
            unfold Oper.wp execOp
            simp only [h81]
            simp [go_sem]
            exact hK _ _ ⟨Below.refl _ _, rfl, trivial⟩
          · intro a W hE hb hs
            have h10 : a.eval (.tmp 10) = .pointer (some ⟨lb, o, none⟩) := hb 10 (by decide)
            refine flow0 rfl ?_
            exact val_move _ rfl _ h10 ⟨rfl, trivial⟩
          · intro a W hE hb hs
            have h83 : a.eval (.tmp 83) = .pointer (some ⟨lb, o, none⟩) := hs 3 (by decide)
            refine flow0 rfl ?_
            intro K hK
            unfold Oper.wp execOp
            simp only [h83]
            simp [go_sem]
            exact hK _ _ ⟨Below.refl _ _, rfl, trivial⟩
          · intro a W hE hb hs
            have h84 : a.eval (.tmp 84) = .pointer (some ⟨lb, o, none⟩) := hs 4 (by decide)
            refine flow0 rfl ?_
            intro K hK
            unfold Oper.wp execOp
            simp only [h84]
            simp [go_sem]
            exact hK _ _ ⟨Below.refl _ _, rfl, trivial⟩
          · intro a W hE hb hs
            have h10 : a.eval (.tmp 10) = .pointer (some ⟨lb, o, none⟩) := hb 10 (by decide)
            refine flow0 rfl ?_
            exact val_move _ rfl _ h10 ⟨rfl, trivial⟩
          · intro a W hE hb hs
            have h86 : a.eval (.tmp 86) = .pointer (some ⟨lb, o, none⟩) := hs 6 (by decide)
            refine flow0 rfl ?_
            intro K hK
            unfold Oper.wp execOp
            simp only [h86]
            simp [go_sem]
            exact hK _ _ ⟨Below.refl _ _, rfl, trivial⟩
          · intro a W hE hb hs
            have h87 : a.eval (.tmp 87) = .pointer (some ⟨lb, o, none⟩) := hs 7 (by decide)
            refine flow0 rfl ?_
            intro K hK
            unfold Oper.wp execOp
            simp only [h87]
            simp [go_sem]
            exact hK _ _ ⟨Below.refl _ _, rfl, trivial⟩
          · intro a W hE hb hs
            have h10 : a.eval (.tmp 10) = .pointer (some ⟨lb, o, none⟩) := hb 10 (by decide)
            refine flow0 rfl ?_
            exact val_move _ rfl _ h10 ⟨rfl, trivial⟩
          · intro a W hE hb hs
            have h89 : a.eval (.tmp 89) = .pointer (some ⟨lb, o, none⟩) := hs 9 (by decide)
            refine flow0 rfl ?_
            intro K hK
            unfold Oper.wp execOp
            simp only [h89]
            simp [go_sem]
            exact hK _ _ ⟨Below.refl _ _, rfl, trivial⟩
          · intro a W hE hb hs
            have h90 : a.eval (.tmp 90) = .pointer (some ⟨lb, o, none⟩) := hs 10 (by decide)
            refine flow0 rfl ?_
            intro K hK
            unfold Oper.wp execOp
            simp only [h90]
            simp [go_sem]
            exact hK _ _ ⟨Below.refl _ _, rfl, trivial⟩
          · intro a W hE hb hs
            have h91 : a.eval (.tmp 91) = .pointer (some ⟨lb, o + 3, none⟩) := hs 11 (by decide)
            refine flow0 rfl ?_
            intro K hK
            unfold Oper.wp execOp
            simp only [h91]
            simp [go_sem]
            exact hK _ _ ⟨Below.refl _ _, rfl, trivial⟩
          · intro a W hE hb hs
            have h10 : a.eval (.tmp 10) = .pointer (some ⟨lb, o, none⟩) := hb 10 (by decide)
            refine flow0 rfl ?_
            exact val_move _ rfl _ h10 ⟨rfl, trivial⟩
          · intro a W hE hb hs
            have h93 : a.eval (.tmp 93) = .pointer (some ⟨lb, o, none⟩) := hs 13 (by decide)
            refine flow0 rfl ?_
            intro K hK
            unfold Oper.wp execOp
            simp only [h93]
            simp [go_sem]
            exact hK _ _ ⟨Below.refl _ _, rfl, trivial⟩
          · intro a W hE hb hs
            have h94 : a.eval (.tmp 94) = .pointer (some ⟨lb, o, none⟩) := hs 14 (by decide)
            refine flow0 rfl ?_
            intro K hK
            unfold Oper.wp execOp
            simp only [h94]
            simp [go_sem]
            exact hK _ _ ⟨Below.refl _ _, rfl, trivial⟩
          · intro a W hE hb hs
            have h95 : a.eval (.tmp 95) = .pointer (some ⟨lb, o + 3, none⟩) := hs 15 (by decide)
            refine flow0 rfl ?_
            intro K hK
            unfold Oper.wp execOp
            simp only [h95]
            simp [go_sem]
            exact hK _ _ ⟨Below.refl _ _, rfl, trivial⟩
          · intro a W hE hb hs
            have h10 : a.eval (.tmp 10) = .pointer (some ⟨lb, o, none⟩) := hb 10 (by decide)
            refine flow0 rfl ?_
            exact val_move _ rfl _ h10 ⟨rfl, trivial⟩
          · intro a W hE hb hs
            have h97 : a.eval (.tmp 97) = .pointer (some ⟨lb, o, none⟩) := hs 17 (by decide)
            refine flow0 rfl ?_
            intro K hK
            unfold Oper.wp execOp
            simp only [h97]
            simp [go_sem]
            exact hK _ _ ⟨Below.refl _ _, rfl, trivial⟩
          · intro a W hE hb hs
            have h98 : a.eval (.tmp 98) = .pointer (some ⟨lb, o, none⟩) := hs 18 (by decide)
            refine flow0 rfl ?_
            intro K hK
            unfold Oper.wp execOp
            simp only [h98]
            simp [go_sem]
            exact hK _ _ ⟨Below.refl _ _, rfl, trivial⟩
          · intro a W hE hb hs
            have h99 : a.eval (.tmp 99) = .pointer (some ⟨lb, o + 3, none⟩) := hs 19 (by decide)
            refine flow0 rfl ?_
            intro K hK
            unfold Oper.wp execOp
            simp only [h99]
            simp [go_sem]
            exact hK _ _ ⟨Below.refl _ _, rfl, trivial⟩
          · intro a W hE hb hs
            have h82 : a.eval (.tmp 82) = .pointer (some ⟨lb, o, none⟩) := hs 2 (by decide)
            have h85 : a.eval (.tmp 85) = .pointer (some ⟨lb, o + 1, none⟩) := hs 5 (by decide)
            have h88 : a.eval (.tmp 88) = .pointer (some ⟨lb, o + 2, none⟩) := hs 8 (by decide)
            have h92 : a.eval (.tmp 92) = .pointer (some ⟨lb, o + 3, none⟩) := hs 12 (by decide)
            have h96 : a.eval (.tmp 96) = .pointer (some ⟨lb, o + 3 + 1, none⟩) := hs 16 (by decide)
            have h100 : a.eval (.tmp 100) = .pointer (some ⟨lb, o + 3 + 4, none⟩) := hs 20 (by decide)
            refine flow0 rfl ?_
            exact val_build 55 _ rfl [(0, .pointer (some ⟨lb, o, none⟩)), (1, .pointer (some ⟨lb, o + 1, none⟩)), (2, .pointer (some ⟨lb, o + 2, none⟩)), (3, .pointer (some ⟨lb, o + 3, none⟩)), (4, .pointer (some ⟨lb, o + 3 + 1, none⟩)), (5, .pointer (some ⟨lb, o + 3 + 4, none⟩))] (by show [(0, a.eval (.tmp 82)), (1, a.eval (.tmp 85)), (2, a.eval (.tmp 88)), (3, a.eval (.tmp 92)), (4, a.eval (.tmp 96)), (5, a.eval (.tmp 100))] = _; rw [h82, h85, h88, h92, h96, h100]) _ (built55 lb o) ⟨rfl, trivial⟩
          · intro a W hE hb hs
            refine flow0 rfl ?_
            exact val_alloc _ rfl (List.replicate 6 (Value.pointer none)).toArray _ i55 hi55 hz55 rfl ⟨⟨_, rfl, Blk.new _ _ _⟩, _, rfl, Nat.le_refl _, by rw [World.size_alloc]; omega⟩
        · intro f W hbW hT hp hd
          have e101 : f 101 = .agg (ptC lb o).toArray := hT 21 (by decide)
          obtain ⟨BP, eBP, hBP⟩ : ∃ B, f 11 = .pointer (some ⟨B, 0, none⟩) ∧ Blk W B 55 (List.replicate 6 (Value.pointer none)).toArray := hT 22 (by decide)
          have lBP : v7.heap.size ≤ BP := by
            obtain ⟨b', h1, h2, _⟩ := hp 22 (by decide) rfl
            have h1' : f 11 = .pointer (some ⟨b', 0, none⟩) := h1
            rw [eBP] at h1'
            injection h1' with h; injection h with h; injection h with h
            omega
          have hbZ := hbW
          have HK0 := (KeptIn.refl (fun k => k ≠ BP) (W)).setRow (g := BP) (fun h => h rfl) (ptC lb o).toArray
          have sBP := hBP
          replace hBP : Blk ((W).setRow BP (ptC lb o).toArray) BP 55 (ptC lb o).toArray := setRow_heap _ _ _ _ _ _ sBP
          replace hbZ := Below.setRow hbZ lBP (ptC lb o).toArray
          simp only [List.drop_succ_cons, List.drop_zero]
          simp only [putV, List.foldl_cons, List.foldl_nil, Act.put, List.setIfInBounds_toArray, List.set_cons_succ, List.set_cons_zero]
          rw [eBP, e101]
          refine wpList_store_row rfl 55 (.tmp 11) (.tmp 101) rfl BP (ptC lb o).toArray rfl rfl 55 (List.replicate 6 (Value.pointer none)).toArray sBP (size55 _ rfl) rfl (pt_one _ _) ?_
          refine wpList_nil ?_
          have HX := Lib.hid (And.intro hBP hbZ)
          clear hT hp hd HK0 sBP hBP hbZ hbW
          go_wp2_with fail
          go_meet
          exact ⟨BP, rfl, HX.out⟩
      case' rest => skip
      obtain ⟨BP, rfl, gP, hbn⟩ := hcut
      obtain ⟨v8, h_⟩ : ∃ v, v = wc := ⟨_, rfl⟩
      subst h_
      have HP := Lib.hid gP
      clear gP
      replace HG := Lib.hid (HG.out.below hbn HG.out.lt)
      replace HE := Lib.hid (HE.out.below hbn HE.out.lt)
      replace Hov := Lib.hid (Hov.out.below hbn)
      replace Hol := Lib.hid (Hol.out.below hbn)
      replace HB := Lib.hid (HB.out.trans (hbn.mono HB.out.size))
      clear hbn
      go_upto_region 13 with fail
      obtain ⟨e, he⟩ : ∃ e, K % 8 = e + 2 := ⟨K % 8 - 2, by omega⟩
      have he6 : e < 6 := by omega
      have hi6 : (e : Int) < 6 := by omega
      have wm9 : IntKind.u32.wrap ((K : Int) % 8) = (K : Int) % 8 := by show ((K : Int) % 8) % 4294967296 = _; omega
      have ws9 : IntKind.u32.wrap ((K : Int) % 8 - 2) = (e : Int) := by show ((K : Int) % 8 - 2) % 4294967296 = _; omega
      obtain ⟨x, hx⟩ : ∃ x, offs[e]? = some x := ⟨offs[e], List.getElem?_eq_getElem (by show e < 6; exact he6)⟩
      have Hpx := Lib.hid (show (ptC lb o)[e]? = some (.pointer (some ⟨lb, o + x, none⟩)) by unfold ptC; rw [List.getElem?_map, hx]; rfl)
      have Hx := Lib.hid hx
      clear hx he
      -- MARKF
      refine wp_region_flow_tail 9 [102, 103, 104, 105, 106, 107, 108, 109, 110] [(Spec.is (.int .u32 (K : Int)), false), (Spec.is (.int .u32 ((K : Int) % 8)), false), (Spec.is (.int .u32 (e : Int)), false), (Spec.is (.pointer (some ⟨BP, e, none⟩)), false), (Spec.is (.pointer (some ⟨lb, o + x, none⟩)), false), (Spec.is (.pointer (some ⟨w.heap.size + 1 + 1, 1, none⟩)), false), (Spec.is (.int .i32 y1), false), (Spec.is (.int .i64 y1), false), (Spec.is (.pointer (some ⟨lb, o + x, none⟩)), false)] 119 (by kernel_rfl) (List.take_append_drop _ _) rfl (by kernel_rfl) (by kernel_rfl) (by kernel_rfl) (by decide) (by kernel_rfl) (by kernel_rfl) (fun _ _ d _ _ h => by cases d <;> exact h) rfl (by decide) rfl (by decide) (by kernel_rfl) ?_ ?_
      · refine ⟨?_, ?_, ?_, ?_, ?_, ?_, ?_, ?_, ?_, trivial⟩
        · intro a W hE hb hs
          have h9 : a.eval (.tmp 9) = .int .u32 (K : Int) := hb 9 (by decide)
          refine flow0 rfl ?_
          exact val_move _ rfl _ h9 ⟨rfl, trivial⟩
        · intro a W hE hb hs
          have h102 : a.eval (.tmp 102) = .int .u32 (K : Int) := hs 0 (by decide)
          refine flow0 rfl ?_
          intro K hK
          unfold Oper.wp execOp
          simp only [h102, BigFrame.eval_const]
          simp [go_sem]
          exact hK _ _ ⟨Below.refl _ _, rfl, trivial⟩
        · intro a W hE hb hs
          have h103 : a.eval (.tmp 103) = .int .u32 ((K : Int) % 8) := hs 1 (by decide)
          refine flow0 rfl ?_
          intro K hK
          unfold Oper.wp execOp
          simp only [h103, BigFrame.eval_const]
          simp [go_sem, ws9]
          exact hK _ _ ⟨Below.refl _ _, rfl, trivial⟩
        · intro a W hE hb hs
          have h104 : a.eval (.tmp 104) = .int .u32 (e : Int) := hs 2 (by decide)
          have h11 : a.eval (.tmp 11) = .pointer (some ⟨BP, 0, none⟩) := hb 11 (by decide)
          refine flow0 rfl ?_
          intro K hK
          unfold Oper.wp execOp
          simp only [h104, h11]
          simp [go_sem, hi6]
          exact hK _ _ ⟨Below.refl _ _, rfl, trivial⟩
        · intro a W hE hb hs
          have h105 : a.eval (.tmp 105) = .pointer (some ⟨BP, e, none⟩) := hs 3 (by decide)
          refine flow0 rfl ?_
          have g0 : W.cell? ⟨BP, e, none⟩ = some (.pointer (some ⟨lb, o + x, none⟩)) := by rw [(HP.out.below (ext_below hE) HP.out.lt).cell, List.getElem?_toArray]; exact Hpx.out
          intro K hK
          unfold Oper.wp execOp
          simp only [h105]
          simp [go_sem, g0]
          exact hK _ _ ⟨Below.refl _ _, rfl, trivial⟩
        · intro a W hE hb hs
          have h5 : a.eval (.tmp 5) = .pointer (some ⟨w.heap.size + 1 + 1, 0, none⟩) := hb 5 (by decide)
          refine flow0 rfl ?_
          intro K hK
          unfold Oper.wp execOp
          simp only [h5, BigFrame.eval_const]
          simp [go_sem]
          exact hK _ _ ⟨Below.refl _ _, rfl, trivial⟩
        · intro a W hE hb hs
          have h107 : a.eval (.tmp 107) = .pointer (some ⟨w.heap.size + 1 + 1, 1, none⟩) := hs 5 (by decide)
          refine flow0 rfl ?_
          have g0 : W.cell? ⟨w.heap.size + 1 + 1, 1, none⟩ = some (.int .i32 y1) := by rw [(HE.out.below (ext_below hE) HE.out.lt).cell]; rfl
          intro K hK
          unfold Oper.wp execOp
          simp only [h107]
          simp [go_sem, g0]
          exact hK _ _ ⟨Below.refl _ _, rfl, trivial⟩
        · intro a W hE hb hs
          have h108 : a.eval (.tmp 108) = .int .i32 y1 := hs 6 (by decide)
          refine flow0 rfl ?_
          intro K hK
          unfold Oper.wp execOp
          simp only [h108]
          simp [go_sem, wy9]
          exact hK _ _ ⟨Below.refl _ _, rfl, trivial⟩
        · intro a W hE hb hs
          have h106 : a.eval (.tmp 106) = .pointer (some ⟨lb, o + x, none⟩) := hs 4 (by decide)
          refine flow0 rfl ?_
          intro K hK
          unfold Oper.wp execOp
          simp only [h106]
          simp [go_sem]
          exact hK _ _ ⟨Below.refl _ _, rfl, trivial⟩
      · intro f W hbW hT hp hd
        have e110 : f 110 = .pointer (some ⟨lb, o + x, none⟩) := hT 8 (by decide)
        have e109 : f 109 = .int .i64 y1 := hT 7 (by decide)
        simp only [List.drop_succ_cons, List.drop_zero]
        simp only [putV, List.foldl_cons, List.foldl_nil, Act.put, List.setIfInBounds_toArray, List.set_cons_succ, List.set_cons_zero]
        rw [e110, e109]
        obtain ⟨l, hl⟩ : ∃ l, LS[qv]? = some l := ⟨_, List.getElem?_eq_getElem (by rw [HLl.out]; exact hlt)⟩
        obtain ⟨hx8, hset⟩ := putL_V l y1 Hx.out
        have hOl := Hol.out.below hbW
        have hfr : W.frozen? ⟨lb, o + x, none⟩ = false := by rw [Ho.out, Nat.add_assoc]; exact hOl.frozen hM0
        obtain ⟨cu, hcu⟩ := hOl.1.2 hM0 lb lo rfl
        have hfl : qv * 8 + x < (LS.flatMap lnV).length := by rw [flat_ln, HLl.out]; omega
        obtain ⟨cx, hcx⟩ : ∃ cx, (LS.flatMap lnV)[qv * 8 + x]? = some cx := ⟨_, List.getElem?_eq_getElem hfl⟩
        have hcs : W.cell? ⟨lb, o + x, none⟩ = some cx := by
          obtain ⟨_, _, e, hc⟩ := hOl.1.rd.2.2 hM0
          cases e
          rw [Ho.out, Nat.add_assoc]
          exact hc (qv * 8 + x) _ hcx
        have hK0 := (KeptIn.refl (fun k => k ≠ lb) W).setAt (p := ⟨lb, o + x, none⟩) (fun h => h rfl) (.int .i64 y1)
        have hol2 := hOl.set (i := qv * 8 + x) (u := .int .i64 y1) hM0 hfl
        rw [ln_set hx8 hset hl, ← Nat.add_assoc, ← Ho.out] at hol2
        have Hol2 := Lib.hid hol2
        have hge := hOl.2 hM0 lb lo rfl
        have Hov2 := Lib.hid ((Hov.out.below hbW).kept hcu (by decide) hK0)
        have HG2 := Lib.hid ((HG.out.below hbW HG.out.lt).keptIn hK0 ((HG.out.below hbW HG.out.lt).ne hcu (by decide)))
        have HB2 := Lib.hid ((HB.out.trans (hbW.mono HB.out.size)).setCell (p := ⟨lb, o + x, none⟩) hge (.int .i64 y1))
        obtain ⟨LX, hLX⟩ : ∃ LX, LX = LS.set qv (putL l e y1) := ⟨_, rfl⟩
        rw [← hLX] at Hol2
        clear hT hp hd hcu hK0 hol2 hge hOl hbW e110 e109 hM0 hl hset hx8 hfl hcx hLX
        -- MARKC
        go_wp2_with fail
        go_meet
        exact ⟨LX, HG2.out, Hov2.out, Hol2.out, HB2.out⟩
  case' rest => skip
  obtain ⟨LX, gG, gv, gl, gB⟩ := hcut
  obtain ⟨v9, h_⟩ : ∃ v, v = wc := ⟨_, rfl⟩
  subst h_
  replace HG := Lib.hid gG
  replace Hov := Lib.hid gv
  replace Hol := Lib.hid gl
  replace HB := Lib.hid gB
  clear gG gv gl gB HVX HE
  obtain ⟨q, hq⟩ : ∃ q, q = validB VX LX := ⟨_, rfl⟩
  have Hq := Lib.hid hq
  clear hq
  go_upto_region 14 with fail
  go_cut [6] from 111 to 118 (fun t6 wx => t6 = .bool true ∧ Below v9.heap.size v9 wx)
  case first =>
    refine wp_region_flowF [111, 112, 113, 114, 115, 116, 117, 118, 6] [(Spec.is (.agg (grV GA N gc GB M gd).toArray), false), (Spec.is (.bool q), false), (Spec.is (.agg (grV GA N gc GB M gd).toArray), false), (Spec.is (.bool q), false), (Spec.is (.bool true), false), (Spec.is (.bool true), false), (Spec.is (.bool true), false), (Spec.is (.bool true), false), (Spec.is (.bool true), false)] 119 (by kernel_rfl) rfl (by decide) rfl (by decide) (by kernel_rfl) ?_ ?_
    · refine ⟨?_, ?_, ?_, ?_, ?_, ?_, ?_, ?_, ?_, trivial⟩
      · intro a W hE hb hs
        have h8 : a.eval (.tmp 8) = .pointer (some ⟨BG, 0, none⟩) := hb 8 (by decide)
        refine flow0 rfl ?_
        exact val_load_row 33 _ rfl BG 0 h8 (grV GA N gc GB M gd) d33 (Blk.range (HG.out.below (ext_below hE) HG.out.lt)) hd33 hrow33 (by rw [grV_len]; kernel_rfl) ⟨rfl, trivial⟩
      · intro a W hE hb hs
        have h111 : a.eval (.tmp 111) = .agg (grV GA N gc GB M gd).toArray := hs 0 (by decide)
        refine flow0 rfl ?_
        exact val_call 22 _ _ rfl (by kernel_rfl) [.agg (grV GA N gc GB M gd).toArray] (by show [a.eval (.tmp 111)] = _; rw [h111]) ((Valid_any _ _ _ _ _ _ VX LX W (Hov.out.1.rd.below (ext_below hE)) (Hol.out.1.rd.below (ext_below hE))).mono (by rintro e W' ⟨rfl, hb⟩; exact ⟨_, rfl, hb, congrArg Value.bool Hq.out.symm, trivial⟩))
      · intro a W hE hb hs
        have h8 : a.eval (.tmp 8) = .pointer (some ⟨BG, 0, none⟩) := hb 8 (by decide)
        refine flow0 rfl ?_
        exact val_load_row 33 _ rfl BG 0 h8 (grV GA N gc GB M gd) d33 (Blk.range (HG.out.below (ext_below hE) HG.out.lt)) hd33 hrow33 (by rw [grV_len]; kernel_rfl) ⟨rfl, trivial⟩
      · intro a W hE hb hs
        have h113 : a.eval (.tmp 113) = .agg (grV GA N gc GB M gd).toArray := hs 2 (by decide)
        refine flow0 rfl ?_
        exact val_call 23 _ _ rfl (by kernel_rfl) [.agg (grV GA N gc GB M gd).toArray] (by show [a.eval (.tmp 113)] = _; rw [h113]) ((RValid_any _ _ _ _ _ _ VX LX W (Hov.out.1.rd.below (ext_below hE)) (Hol.out.1.rd.below (ext_below hE))).mono (by rintro e W' ⟨rfl, hb⟩; exact ⟨_, rfl, hb, congrArg Value.bool Hq.out.symm, trivial⟩))
      · intro a W hE hb hs
        have h112 : a.eval (.tmp 112) = .bool q := hs 1 (by decide)
        have h114 : a.eval (.tmp 114) = .bool q := hs 3 (by decide)
        refine flow0 rfl ?_
        intro K hK
        unfold Oper.wp execOp
        simp only [h112, h114]
        simp [go_sem]
        exact hK _ _ ⟨Below.refl _ _, rfl, trivial⟩
      · intro a W hE hb hs
        have h115 : a.eval (.tmp 115) = .bool true := hs 4 (by decide)
        refine flow0 rfl ?_
        exact val_move _ rfl _ h115 ⟨rfl, trivial⟩
      · intro a W hE hb hs
        have h116 : a.eval (.tmp 116) = .bool true := hs 5 (by decide)
        have h7 : a.eval (.tmp 7) = .bool true := hb 7 (by decide)
        refine flowY rfl rfl h116 ?_
        exact val_move _ rfl _ h7 ⟨rfl, trivial⟩
      · intro a W hE hb hs
        have h116 : a.eval (.tmp 116) = .bool true := hs 5 (by decide)
        have h117 : a.eval (.tmp 117) = .bool true := hs 6 (by decide)
        refine flow0 rfl ?_
        exact val_pick _ _ _ rfl true h116 _ (by rw [if_pos rfl]; exact h117) ⟨rfl, trivial⟩
      · intro a W hE hb hs
        have h118 : a.eval (.tmp 118) = .bool true := hs 7 (by decide)
        refine flow0 rfl ?_
        exact val_assign _ rfl _ h118 ⟨rfl, trivial⟩
    · intro f W hbW hT hp hd
      have hres : f 6 = .bool true := hT 8 (by decide)
      simp only [putV, List.foldl_cons, List.foldl_nil, Act.put, List.setIfInBounds_toArray, List.set_cons_succ, List.set_cons_zero, Exit.then]
      rw [hres]
      have Hend := Lib.hid hbW
      clear hT hp hd hres hbW
      go_wp2_with fail
      go_meet
      exact ⟨rfl, Hend.out⟩
  case' rest => skip
  obtain ⟨rfl, hbn⟩ := hcut
  have HBz := Lib.hid (HB.out.trans (hbn.mono HB.out.size))
  clear hbn
  go_wp2_with fail
  go_ret
  exact ⟨rfl, HBz.out⟩
end Go.Proofs.Ytgelchbbknckcaa
