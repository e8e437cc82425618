/- The law GraphDetours. -/
import Derived.Test.YtgelchbbknckcaaG19
namespace Go.Proofs.Ytgelchbbknckcaa
open Go.RowKit Go.Sort

theorem und36 : Try.prog.underlying 36 = some (.array 3 5) := by kernel_rfl
theorem und25 : ∃ d, Try.prog.underlying 25 = some d ∧ d.isRow = true := by
  obtain ⟨d, h1, h2⟩ := Option.map_eq_some_iff.1 (show (Try.prog.underlying 25).map (·.isRow) = some true by kernel_rfl)
  exact ⟨d, h1, h2⟩

theorem pathC_bd {vs : List Int} {ls : List Ln} {lim : Nd} {fr tv : Int} (hv : Vg vs ls) (h : PathOk vs ls lim fr tv) : -10000000000 ≤ (pathC vs ls lim fr tv).2.1 ∧ (pathC vs ls lim fr tv).2.1 ≤ 10000000000 := by
  rcases h with ⟨_, _, h, _⟩ | ⟨s, t, _, _, ⟨_, _, h, _⟩ | ⟨w, hw, hl, _, h, _⟩⟩
  · rw [h]; omega
  · rw [h]; omega
  · have h1 := hw.1.cost (K := 1000000) (fun k u t d b hk => by obtain ⟨_, _, _, _, _, h, _⟩ := hv.lk hk; exact h)
    have h2 := hv.n
    have h3 : w.2.length * 1000000 ≤ 16 * 1000000 := Nat.mul_le_mul_right _ (by omega)
    rw [h]; omega
theorem field44e (A : Option Addr) (n c : Nat) (k e : Int) (w : World) : (Instr.field 44 (.agg #[.slice A n c, .int .i64 k, .int .i64 e]) 2).run Try.prog w = .ok (.int .i64 e) w := by kernel_rfl

set_option maxRecDepth 100000 in
set_option maxHeartbeats 4000000 in
theorem GraphDetours_any (A : Option Addr) (n c : Nat) (B : Option Addr) (m d : Nat) (xs : List UInt8) (ys : List R6) (w0 w1 w2 m0 m1 m2 : UInt8) (w : World) (hr : Rd w 1 A n (xs.map byteV)) (hl : Rd w 6 B m (ys.flatMap r6V)) :
    Calls Try.prog 10 #[.agg (grV A n c B m d).toArray, .agg #[byteV w0, byteV w1, byteV w2], .agg #[byteV m0, byteV m1, byteV m2]] w fun e w' => e = .returned (.bool true) ∧ Below w.heap.size w w' := by
  obtain ⟨i28, hi28, hz28, hs28, hy28⟩ := info_parts info28
  obtain ⟨i33, hi33, hz33, hs33, hy33⟩ := info_parts info33
  obtain ⟨i44, hi44, hz44, hs44, hy44⟩ := info_parts info44
  obtain ⟨d25, hd25, hrow25⟩ := und25
  obtain ⟨d28, hd28, hrow28⟩ := und28
  obtain ⟨d33, hd33, hrow33⟩ := und33
  obtain ⟨d44, hd44, hrow44⟩ := und44
  have hxl := hr.len1
  obtain ⟨N, hN⟩ : ∃ N, N = min n 7 := ⟨_, rfl⟩
  obtain ⟨M, hM⟩ : ∃ M, M = madeM xs ys := ⟨_, rfl⟩
  obtain ⟨VS, hVS⟩ : ∃ VS, VS = verN xs (min n 7) := ⟨_, rfl⟩
  obtain ⟨LS, hLS⟩ : ∃ LS, LS = madeL xs ys := ⟨_, rfl⟩
  obtain ⟨ND, hND⟩ : ∃ ND, ND = needN m0 m1 m2 := ⟨_, rfl⟩
  have hvg : Vg VS LS := by rw [hVS, hLS]; exact made_vg xs ys hxl
  have hbd : ∀ x ∈ VS, 1 ≤ x ∧ x ≤ 21 := fun x hx => by rw [hVS] at hx; have := verN_bd hx; omega
  have hVl : VS.length = N := by rw [hVS, hN, verN_len]
  have Hr := Lib.hid hr
  have Hl := Lib.hid hl
  have Hvg := Lib.hid hvg
  have Hbd := Lib.hid hbd
  have HVl := Lib.hid hVl
  have HNe := Lib.hid hN
  have hN7 : N ≤ 7 := by omega
  have hMade : ∀ W : World, Rd W 1 A n (xs.map byteV) → Rd W 6 B m (ys.flatMap r6V) → Calls Try.prog 12 #[.agg (grV A n c B m d).toArray] W fun e w' => (∃ A' c' B' d', e = .returned (.agg (grV A' N c' B' M d').toArray) ∧ TRd w' 3 1 A' N (VS.map intV) ∧ TRd w' 53 8 B' M (LS.flatMap lnV)) ∧ Below W.heap.size W w' := fun W h1 h2 => by
    rw [hN, hM, hVS, hLS]; exact Made_C A n c B m d xs ys W h1 h2
  have HMade := Lib.hid hMade
  have hNeed : ∀ W : World, Calls Try.prog 13 #[.agg #[byteV m0, byteV m1, byteV m2]] W fun e w' => e = .returned (.agg (ndV ND).toArray) ∧ Below W.heap.size W w' := fun W => by rw [hND]; exact Need_any m0 m1 m2 W
  have HNeed := Lib.hid hNeed
  clear hr hl hvg hbd hxl hN hM hVS hLS hND hMade hNeed hVl
  go_enter Try.func10, Try.ntmps10
  go_upto_region 1 with fail
  try simp only [World.size_alloc]
  obtain ⟨v1, hv1⟩ : ∃ v, v = ((w.alloc (.cells (grV A n c B m d).toArray 25)).alloc (.cells #[byteV w0, byteV w1, byteV w2] 36)).alloc (.cells #[byteV m0, byteV m1, byteV m2] 36) := ⟨_, rfl⟩
  have hB : Below w.heap.size w v1 := by rw [hv1]; exact (((Below.refl _ _).alloc (Nat.le_refl _) _).alloc (by simp) _).alloc (by simp; omega) _
  have hC : Blk v1 w.heap.size 25 (grV A n c B m d).toArray := by rw [hv1]; exact ((Blk.new _ _ _).alloc _).alloc _
  have hD : Blk v1 (w.heap.size + 1) 36 #[byteV w0, byteV w1, byteV w2] := by
    have := Blk.new (w.alloc (.cells (grV A n c B m d).toArray 25)) 36 #[byteV w0, byteV w1, byteV w2]
    rw [World.size_alloc] at this
    rw [hv1]; exact this.alloc _
  have hE : Blk v1 (w.heap.size + 1 + 1) 36 #[byteV m0, byteV m1, byteV m2] := by
    have := Blk.new ((w.alloc (.cells (grV A n c B m d).toArray 25)).alloc (.cells #[byteV w0, byteV w1, byteV w2] 36)) 36 #[byteV m0, byteV m1, byteV m2]
    rw [World.size_alloc, World.size_alloc] at this
    rw [hv1]; exact this
  rw [← hv1]
  clear hv1
  have HC := Lib.hid hC
  have HD := Lib.hid hD
  have HE := Lib.hid hE
  have HB := Lib.hid hB
  clear hC hD hE hB
  go_upto_region 2 with fail
  refine (sanity_any v1).mono ?_
  rintro e v2 ⟨rfl, hb2⟩
  replace HC := Lib.hid (HC.out.below hb2 HC.out.lt)
  replace HD := Lib.hid (HD.out.below hb2 HD.out.lt)
  replace HE := Lib.hid (HE.out.below hb2 HE.out.lt)
  replace HB := Lib.hid (HB.out.trans (hb2.mono HB.out.size))
  replace Hr := Lib.hid (Hr.out.below HB.out)
  replace Hl := Lib.hid (Hl.out.below HB.out)
  clear hb2
  go_upto_region 2 with fail
  go_cut [8, 9] from 18 to 21 (fun t8 t9 wx => ∃ (B8 B9 : Nat) (GA : Option Addr) (gc : Nat) (GB : Option Addr) (gd : Nat), t8 = .pointer (some ⟨B8, 0, none⟩) ∧ t9 = .pointer (some ⟨B9, 0, none⟩) ∧ Blk wx B8 33 (grV GA N gc GB M gd).toArray ∧ Blk wx B9 28 (ndV ND).toArray ∧ TRd wx 3 1 GA N (VS.map intV) ∧ TRd wx 53 8 GB M (LS.flatMap lnV) ∧ Below v2.heap.size v2 wx)
  case first =>
    refine wp_region_flow_tail 6 [18, 19, 20, 21, 8, 9] [(Spec.is (.agg (grV A n c B m d).toArray), false), (spGr N M VS LS, false), (Spec.is (.agg #[byteV m0, byteV m1, byteV m2]), false), (Spec.is (.agg (ndV ND).toArray), false), (spVar 33 (grV none 0 0 none 0 0).toArray, true), (spVar 28 (ndV nd0).toArray, true)] 122 (by kernel_rfl) (List.take_append_drop _ _) rfl (by kernel_rfl) (by kernel_rfl) (by kernel_rfl) (by decide) (by kernel_rfl) (by kernel_rfl) (fun _ _ d _ _ h => by cases d <;> exact h) rfl (by decide) rfl (by decide) (by kernel_rfl) ?_ ?_
    · refine ⟨?_, ?_, ?_, ?_, ?_, ?_, trivial⟩
      · intro a W hE hb hs
        have h3 : a.eval (.tmp 3) = .pointer (some ⟨w.heap.size, 0, none⟩) := hb 3 (by decide)
        refine flow0 rfl ?_
        exact val_load_row 25 _ rfl w.heap.size 0 h3 (grV A n c B m d) d25 (Blk.range (HC.out.below (ext_below hE) HC.out.lt)) hd25 hrow25 (by rw [grV_len]; kernel_rfl) ⟨rfl, trivial⟩
      · intro a W hE hb hs
        have h18 : a.eval (.tmp 18) = .agg (grV A n c B m d).toArray := hs 0 (by decide)
        refine flow0 rfl ?_
        exact val_call 12 _ _ rfl (by kernel_rfl) [.agg (grV A n c B m d).toArray] (by show [a.eval (.tmp 18)] = _; rw [h18]) ((HMade.out W (Hr.out.below (ext_below hE)) (Hl.out.below (ext_below hE))).mono (by rintro e W' ⟨⟨A', c', B', d', rfl, h1, h2⟩, hb⟩; exact ⟨_, rfl, hb, ⟨A', c', B', d', rfl, h1, h2⟩, trivial⟩))
      · intro a W hE hb hs
        have h5 : a.eval (.tmp 5) = .pointer (some ⟨w.heap.size + 1 + 1, 0, none⟩) := hb 5 (by decide)
        refine flow0 rfl ?_
        exact val_load_row 36 _ rfl (w.heap.size + 1 + 1) 0 h5 [byteV m0, byteV m1, byteV m2] _ (Blk.range (HE.out.below (ext_below hE) HE.out.lt)) und36 rfl (by kernel_rfl) ⟨rfl, trivial⟩
      · intro a W hE hb hs
        have h20 : a.eval (.tmp 20) = .agg #[byteV m0, byteV m1, byteV m2] := hs 2 (by decide)
        refine flow0 rfl ?_
        exact val_call 13 _ _ rfl (by kernel_rfl) [.agg #[byteV m0, byteV m1, byteV m2]] (by show [a.eval (.tmp 20)] = _; rw [h20]) ((HNeed.out W).mono (by rintro e W' ⟨rfl, hb⟩; exact ⟨_, rfl, hb, rfl, trivial⟩))
      · intro a W hE hb hs
        refine flow0 rfl ?_
        exact val_alloc _ rfl (grV none 0 0 none 0 0).toArray _ i33 hi33 hz33 rfl ⟨⟨_, rfl, Blk.new _ _ _⟩, _, rfl, Nat.le_refl _, by rw [World.size_alloc]; omega⟩
      · intro a W hE hb hs
        refine flow0 rfl ?_
        exact val_alloc _ rfl (ndV nd0).toArray _ i28 hi28 hz28 rfl ⟨⟨_, rfl, Blk.new _ _ _⟩, _, rfl, Nat.le_refl _, by rw [World.size_alloc]; omega⟩
    · intro f W hbW hT hp hd
      obtain ⟨GA, gc, GB, gd, e19, hg1, hg2⟩ : ∃ (A : Option Addr) (c : Nat) (B : Option Addr) (d : Nat), f 19 = .agg (grV A N c B M d).toArray ∧ TRd W 3 1 A N (VS.map intV) ∧ TRd W 53 8 B M (LS.flatMap lnV) := hT 1 (by decide)
      have e21 : f 21 = .agg (ndV ND).toArray := hT 3 (by decide)
      obtain ⟨B8, eB8, hB8⟩ : ∃ B, f 8 = .pointer (some ⟨B, 0, none⟩) ∧ Blk W B 33 (grV none 0 0 none 0 0).toArray := hT 4 (by decide)
      have lB8 : v2.heap.size ≤ B8 := by
        obtain ⟨b', h1, h2, _⟩ := hp 4 (by decide) rfl
        have h1' : f 8 = .pointer (some ⟨b', 0, none⟩) := h1
        rw [eB8] at h1'
        injection h1' with h; injection h with h; injection h with h
        omega
      obtain ⟨B9, eB9, hB9⟩ : ∃ B, f 9 = .pointer (some ⟨B, 0, none⟩) ∧ Blk W B 28 (ndV nd0).toArray := hT 5 (by decide)
      have lB9 : v2.heap.size ≤ B9 := by
        obtain ⟨b', h1, h2, _⟩ := hp 5 (by decide) rfl
        have h1' : f 9 = .pointer (some ⟨b', 0, none⟩) := h1
        rw [eB9] at h1'
        injection h1' with h; injection h with h; injection h with h
        omega
      have nB8B9 : B8 ≠ B9 := hB8.ne hB9 (by decide)
      have nB9B8 : B9 ≠ B8 := fun e => nB8B9 e.symm
      have hbZ := hbW
      have HK0 := (KeptIn.refl (fun k => k ≠ B8) (W)).setRow (g := B8) (fun h => h rfl) (grV GA N gc GB M gd).toArray
      have sB8 := hB8
      replace hg1 := hg1.kept hB8 (by decide) HK0
      replace hg2 := hg2.kept hB8 (by decide) HK0
      replace hB9 := hB9.keptIn HK0 nB9B8
      replace hB8 : Blk ((W).setRow B8 (grV GA N gc GB M gd).toArray) B8 33 (grV GA N gc GB M gd).toArray := setRow_heap _ _ _ _ _ _ sB8
      replace hbZ := Below.setRow hbZ lB8 (grV GA N gc GB M gd).toArray
      have HK1 := (KeptIn.refl (fun k => k ≠ B9) ((W).setRow B8 (grV GA N gc GB M gd).toArray)).setRow (g := B9) (fun h => h rfl) (ndV ND).toArray
      have sB9 := hB9
      replace hg1 := hg1.kept hB9 (by decide) HK1
      replace hg2 := hg2.kept hB9 (by decide) HK1
      replace hB8 := hB8.keptIn HK1 nB8B9
      replace hB9 : Blk (((W).setRow B8 (grV GA N gc GB M gd).toArray).setRow B9 (ndV ND).toArray) B9 28 (ndV ND).toArray := setRow_heap _ _ _ _ _ _ sB9
      replace hbZ := Below.setRow hbZ lB9 (ndV ND).toArray
      simp only [List.drop_succ_cons, List.drop_zero]
      simp only [putV, List.foldl_cons, List.foldl_nil, Act.put, List.setIfInBounds_toArray, List.set_cons_succ, List.set_cons_zero]
      rw [eB8, eB9, e19, e21]
      refine wpList_store_row rfl 33 (.tmp 8) (.tmp 19) rfl B8 (grV GA N gc GB M gd).toArray rfl rfl 33 (grV none 0 0 none 0 0).toArray sB8 (size33 _ rfl) rfl (gr_one _ _ _ _ _ _) ?_
      refine wpList_store_row rfl 28 (.tmp 9) (.tmp 21) rfl B9 (ndV ND).toArray rfl rfl 28 (ndV nd0).toArray sB9 (size28 _ rfl) rfl (nd_one _) ?_
      refine wpList_nil ?_
      have HX := Lib.hid (And.intro hB8 (And.intro hB9 (And.intro hg1 (And.intro hg2 hbZ))))
      clear hT hp hd HK0 HK1 sB8 sB9 hB8 hB9 hg1 hg2 hbZ hbW
      go_wp2_with fail
      go_meet
      exact ⟨B8, B9, GA, gc, GB, gd, rfl, rfl, HX.out⟩
  case' rest => skip
  obtain ⟨B8, B9, GA, gc, GB, gd, rfl, rfl, hG, hN, hR, hL, hb3⟩ := hcut
  obtain ⟨v3, h_⟩ : ∃ v, v = wc := ⟨_, rfl⟩
  subst h_
  have HG := Lib.hid hG
  have HN := Lib.hid hN
  have HRd := Lib.hid hR
  have HLd := Lib.hid hL
  replace HD := Lib.hid (HD.out.below hb3 HD.out.lt)
  replace HB := Lib.hid (HB.out.trans (hb3.mono HB.out.size))
  clear hG hN hR hL hb3 HC HE Hr Hl HMade HNeed
  go_upto_region 3 with fail
  have Hrg := Lib.hid (Blk.range HG.out)
  have Hrn := Lib.hid (Blk.range HN.out)
  have Hp1 := Lib.hid (show Calls Try.prog 18 #[.agg (grV GA N gc GB M gd).toArray, .agg (asV 60001 1 ND).toArray] v3 fun e w' => (∃ (A' : Option Addr) (q c' : Nat) (k : Int), e = .returned (.agg #[.slice A' q c', .int .i64 k, .int .i64 291])) ∧ Below v3.heap.size v3 w' from (path_C GA N gc GB M gd VS LS 60001 1 ND v3 HRd.out.rd HLd.out.rd Hvg.out).mono (by
    rintro e w' ⟨⟨A', c', rfl, _, _⟩, hb⟩
    rw [strange_e (.inl fun h => by have := Hbd.out _ h; omega)]
    exact ⟨⟨_, _, _, _, rfl⟩, hb⟩))
  go_wp2_with (first | (refine wpList_load_mid rfl 33 (.tmp 8) rfl B8 0 rfl (grV GA N gc GB M gd) d33 Hrg.out hd33 hrow33 (by rw [grV_len]; kernel_rfl) ?_) | (refine wpList_load_mid rfl 28 (.tmp 9) rfl B9 0 rfl (ndV ND) d28 Hrn.out hd28 hrow28 (by rw [ndV_len]; kernel_rfl) ?_) | (refine wpList_buildN rfl 40 _ rfl [(0, .int .i64 60001), (1, .int .i64 1), (2, .agg (ndV ND).toArray)] rfl _ (built40 _ _ _) ?_))
  refine Hp1.out.mono ?_
  rintro e v4 ⟨⟨A4, q4, c4, k4, rfl⟩, hb4⟩
  replace HG := Lib.hid (HG.out.below hb4 HG.out.lt)
  replace HN := Lib.hid (HN.out.below hb4 HN.out.lt)
  replace HRd := Lib.hid (HRd.out.below hb4)
  replace HLd := Lib.hid (HLd.out.below hb4)
  replace HD := Lib.hid (HD.out.below hb4 HD.out.lt)
  replace HB := Lib.hid (HB.out.trans (hb4.mono HB.out.size))
  replace Hrg := Lib.hid (Blk.range HG.out)
  replace Hrn := Lib.hid (Blk.range HN.out)
  clear hb4 Hp1
  have Hp2 := Lib.hid (show Calls Try.prog 18 #[.agg (grV GA N gc GB M gd).toArray, .agg (asV 1 (-1) ND).toArray] v4 fun e w' => (∃ (A' : Option Addr) (q c' : Nat) (k : Int), e = .returned (.agg #[.slice A' q c', .int .i64 k, .int .i64 291])) ∧ Below v4.heap.size v4 w' from (path_C GA N gc GB M gd VS LS 1 (-1) ND v4 HRd.out.rd HLd.out.rd Hvg.out).mono (by
    rintro e w' ⟨⟨A', c', rfl, _, _⟩, hb⟩
    rw [strange_e (.inr fun h => by have := Hbd.out _ h; omega)]
    exact ⟨⟨_, _, _, _, rfl⟩, hb⟩))
  go_wp2_with (first | (refine wpList_field (by first | rfl | simp [Region.wanted, yielded]) 44 (.tmp 25) 2 rfl (.agg #[.slice A4 q4 c4, .int .i64 k4, .int .i64 291]) (.int .i64 291) rfl (field44e _ _ _ _ _ _) ?_) | (refine wpList_load_mid_g (by first | rfl | simp [Region.wanted, yielded]) 33 (.tmp 8) rfl B8 0 rfl (grV GA N gc GB M gd) d33 Hrg.out hd33 hrow33 (by rw [grV_len]; kernel_rfl) ?_) | (refine wpList_load_mid_g (by first | rfl | simp [Region.wanted, yielded]) 28 (.tmp 9) rfl B9 0 rfl (ndV ND) d28 Hrn.out hd28 hrow28 (by rw [ndV_len]; kernel_rfl) ?_) | (refine wpList_buildN_g (by first | rfl | simp [Region.wanted, yielded]) 40 _ rfl [(0, .int .i64 1), (1, .int .i64 (-1)), (2, .agg (ndV ND).toArray)] rfl _ (built40 _ _ _) ?_))
  refine Hp2.out.mono ?_
  rintro e v5 ⟨⟨A5, q5, c5, k5, rfl⟩, hb5⟩
  replace HG := Lib.hid (HG.out.below hb5 HG.out.lt)
  replace HN := Lib.hid (HN.out.below hb5 HN.out.lt)
  replace HRd := Lib.hid (HRd.out.below hb5)
  replace HLd := Lib.hid (HLd.out.below hb5)
  replace HD := Lib.hid (HD.out.below hb5 HD.out.lt)
  replace HB := Lib.hid (HB.out.trans (hb5.mono HB.out.size))
  clear hb5 Hp2 Hrg Hrn
  have g0 : v5.cell? ⟨B8, 0, none⟩ = some (.slice GA N gc) := by rw [HG.out.cell]; rfl
  by_cases hN0 : N = 0
  · rw [hN0] at g0
    clear hN0
    go_wp2_with (refine wpList_field (by first | rfl | simp [Region.wanted, yielded]) 44 (.tmp 32) 2 rfl (.agg #[.slice A5 q5 c5, .int .i64 k5, .int .i64 291]) (.int .i64 291) rfl (field44e _ _ _ _ _ _) ?_)
    go_ret
    exact ⟨rfl, HB.out⟩
  have q1 : ((N : Int) == 0) = false := by rw [beq_eq_false_iff_ne]; omega
  have q2 : (N == 0) = false := by rw [beq_eq_false_iff_ne]; omega
  go_upto_region 6 with (refine wpList_field (by first | rfl | simp [Region.wanted, yielded]) 44 (.tmp 32) 2 rfl (.agg #[.slice A5 q5 c5, .int .i64 k5, .int .i64 291]) (.int .i64 291) rfl (field44e _ _ _ _ _ _) ?_)
  clear q1 q2
  obtain ⟨F0, hF0⟩ : ∃ F, F = w0.toNat % N := ⟨_, rfl⟩
  obtain ⟨F1, hF1⟩ : ∃ F, F = w1.toNat % N := ⟨_, rfl⟩
  obtain ⟨F2, hF2⟩ : ∃ F, F = w2.toNat % N := ⟨_, rfl⟩
  have k0 : (w0.toNat : Int) % (N : Int) = (F0 : Int) := by rw [hF0]; exact (Int.natCast_emod _ _).symm
  have k1 : (w1.toNat : Int) % (N : Int) = (F1 : Int) := by rw [hF1]; exact (Int.natCast_emod _ _).symm
  have k2 : (w2.toNat : Int) % (N : Int) = (F2 : Int) := by rw [hF2]; exact (Int.natCast_emod _ _).symm
  have f0 : F0 < N := by rw [hF0]; exact Nat.mod_lt _ (by omega)
  have f1 : F1 < N := by rw [hF1]; exact Nat.mod_lt _ (by omega)
  have f2 : F2 < N := by rw [hF2]; exact Nat.mod_lt _ (by omega)
  have b0 := w0.toNat_lt
  have b1 := w1.toNat_lt
  have b2 := w2.toNat_lt
  obtain ⟨vb, vo, va, ea, hva, cva⟩ := HRd.out.rd.at_ f0
  subst ea
  obtain ⟨_, _, vb', ea, hvb, cvb⟩ := HRd.out.rd.at_ f1
  cases ea
  obtain ⟨_, _, vc', ea, hvc, cvc⟩ := HRd.out.rd.at_ f2
  cases ea
  have cva' : v5.cell? ⟨vb, vo + F0, none⟩ = some (.int .i64 va) := cva
  have cvb1 : v5.cell? ⟨vb, vo + F1, none⟩ = some (.int .i64 vb') := cvb
  have cvc1 : v5.cell? ⟨vb, vo + F2, none⟩ = some (.int .i64 vc') := cvc
  have d0 : v5.cell? ⟨w.heap.size + 1, 0, none⟩ = some (.int .u8 (w0.toNat : Int)) := by rw [HD.out.cell]; rfl
  have d1 : v5.cell? ⟨w.heap.size + 1, 1, none⟩ = some (.int .u8 (w1.toNat : Int)) := by rw [HD.out.cell]; rfl
  have d2 : v5.cell? ⟨w.heap.size + 1, 2, none⟩ = some (.int .u8 (w2.toNat : Int)) := by rw [HD.out.cell]; rfl
  clear hF0 hF1 hF2 hva hvb hvc cva cvb cvc
  go_cut [11, 12, 13] from 44 to 76 (fun t11 t12 t13 wx => t11 = .int .i64 va ∧ t12 = .int .i64 vb' ∧ t13 = .int .i64 vc' ∧ Below v5.heap.size v5 wx)
  case first =>
    go_quiet (fail)
    go_wp2_with fail
    go_meet
    exact ⟨rfl, rfl, rfl, below_drewN (Below.refl _ _) _⟩
  case' rest => skip
  obtain ⟨rfl, rfl, rfl, hb6⟩ := hcut
  obtain ⟨v6, h_⟩ : ∃ v, v = wc := ⟨_, rfl⟩
  subst h_
  replace HG := Lib.hid (HG.out.below hb6 HG.out.lt)
  replace HN := Lib.hid (HN.out.below hb6 HN.out.lt)
  replace HRd := Lib.hid (HRd.out.below hb6)
  replace HLd := Lib.hid (HLd.out.below hb6)
  replace HB := Lib.hid (HB.out.trans (hb6.mono HB.out.size))
  clear hb6 g0 k0 k1 k2 f0 f1 f2 b0 b1 b2 cva' cvb1 cvc1 d0 d1 d2 HD
  obtain ⟨GA, hGA⟩ : ∃ x : Option Addr, x = some ⟨vb, vo, none⟩ := ⟨_, rfl⟩
  rw [← hGA] at HG HRd
  clear hGA
  obtain ⟨vb, hvb_⟩ : ∃ x, x = vb' := ⟨_, rfl⟩
  subst hvb_
  obtain ⟨vc, hvc_⟩ : ∃ x, x = vc' := ⟨_, rfl⟩
  subst hvc_
  go_upto_region 7 with fail
  go_cut [14, 15, 16] from 77 to 94 (fun t14 t15 t16 wx => ∃ (B14 B15 B16 : Nat) (A1 A2 A3 : Option Addr) (c1 c2 c3 : Nat), t14 = .pointer (some ⟨B14, 0, none⟩) ∧ t15 = .pointer (some ⟨B15, 0, none⟩) ∧ t16 = .pointer (some ⟨B16, 0, none⟩) ∧ Blk wx B14 44 (rsV A1 (pathC VS LS ND va vb).1.length c1 (pathC VS LS ND va vb).2.1 (pathC VS LS ND va vb).2.2).toArray ∧ Blk wx B15 44 (rsV A2 (pathC VS LS ND vb vc).1.length c2 (pathC VS LS ND vb vc).2.1 (pathC VS LS ND vb vc).2.2).toArray ∧ Blk wx B16 44 (rsV A3 (pathC VS LS ND va vc).1.length c3 (pathC VS LS ND va vc).2.1 (pathC VS LS ND va vc).2.2).toArray ∧ PathOk VS LS ND va vb ∧ PathOk VS LS ND vb vc ∧ PathOk VS LS ND va vc ∧ Below v6.heap.size v6 wx)
  case first =>
    refine wp_region_flow_tail 21 [77, 78, 79, 80, 81, 82, 83, 84, 85, 86, 87, 88, 89, 90, 91, 92, 93, 94, 14, 15, 16] [(Spec.is (.agg (grV GA N gc GB M gd).toArray), false), (Spec.is (.int .i64 va), false), (Spec.is (.int .i64 vb), false), (Spec.is (.agg (ndV ND).toArray), false), (Spec.is (.agg (asV va vb ND).toArray), false), (spPa VS LS ND va vb, false), (Spec.is (.agg (grV GA N gc GB M gd).toArray), false), (Spec.is (.int .i64 vb), false), (Spec.is (.int .i64 vc), false), (Spec.is (.agg (ndV ND).toArray), false), (Spec.is (.agg (asV vb vc ND).toArray), false), (spPa VS LS ND vb vc, false), (Spec.is (.agg (grV GA N gc GB M gd).toArray), false), (Spec.is (.int .i64 va), false), (Spec.is (.int .i64 vc), false), (Spec.is (.agg (ndV ND).toArray), false), (Spec.is (.agg (asV va vc ND).toArray), false), (spPa VS LS ND va vc, false), (spVar 44 (rsV none 0 0 0 0).toArray, true), (spVar 44 (rsV none 0 0 0 0).toArray, true), (spVar 44 (rsV none 0 0 0 0).toArray, true)] 122 (by kernel_rfl) (List.take_append_drop _ _) rfl (by kernel_rfl) (by kernel_rfl) (by kernel_rfl) (by decide) (by kernel_rfl) (by kernel_rfl) (fun _ _ d _ _ h => by cases d <;> exact h) rfl (by decide) rfl (by decide) (by kernel_rfl) ?_ ?_
    · refine ⟨?_, ?_, ?_, ?_, ?_, ?_, ?_, ?_, ?_, ?_, ?_, ?_, ?_, ?_, ?_, ?_, ?_, ?_, ?_, ?_, ?_, trivial⟩
      · intro a W hE hb hs
        have h8 : a.eval (.tmp 8) = .pointer (some ⟨B8, 0, none⟩) := hb 8 (by decide)
        refine flow0 rfl ?_
        exact val_load_row 33 _ rfl B8 0 h8 (grV GA N gc GB M gd) d33 (Blk.range (HG.out.below (ext_below hE) HG.out.lt)) hd33 hrow33 (by rw [grV_len]; kernel_rfl) ⟨rfl, trivial⟩
      · intro a W hE hb hs
        have h11 : a.eval (.tmp 11) = .int .i64 va := hb 11 (by decide)
        refine flow0 rfl ?_
        exact val_move _ rfl _ h11 ⟨rfl, trivial⟩
      · intro a W hE hb hs
        have h12 : a.eval (.tmp 12) = .int .i64 vb := hb 12 (by decide)
        refine flow0 rfl ?_
        exact val_move _ rfl _ h12 ⟨rfl, trivial⟩
      · intro a W hE hb hs
        have h9 : a.eval (.tmp 9) = .pointer (some ⟨B9, 0, none⟩) := hb 9 (by decide)
        refine flow0 rfl ?_
        exact val_load_row 28 _ rfl B9 0 h9 (ndV ND) d28 (Blk.range (HN.out.below (ext_below hE) HN.out.lt)) hd28 hrow28 (by rw [ndV_len]; kernel_rfl) ⟨rfl, trivial⟩
      · intro a W hE hb hs
        have h78 : a.eval (.tmp 78) = .int .i64 va := hs 1 (by decide)
        have h79 : a.eval (.tmp 79) = .int .i64 vb := hs 2 (by decide)
        have h80 : a.eval (.tmp 80) = .agg (ndV ND).toArray := hs 3 (by decide)
        refine flow0 rfl ?_
        exact val_build 40 _ rfl [(0, .int .i64 va), (1, .int .i64 vb), (2, .agg (ndV ND).toArray)] (by show [(0, a.eval (.tmp 78)), (1, a.eval (.tmp 79)), (2, a.eval (.tmp 80))] = _; rw [h78, h79, h80]) _ (built40 _ _ _) ⟨rfl, trivial⟩
      · intro a W hE hb hs
        have h77 : a.eval (.tmp 77) = .agg (grV GA N gc GB M gd).toArray := hs 0 (by decide)
        have h81 : a.eval (.tmp 81) = .agg (asV va vb ND).toArray := hs 4 (by decide)
        refine flow0 rfl ?_
        exact val_call 18 _ _ rfl (by kernel_rfl) [.agg (grV GA N gc GB M gd).toArray, .agg (asV va vb ND).toArray] (by show [a.eval (.tmp 77), a.eval (.tmp 81)] = _; rw [h77, h81]) ((path_C _ _ _ _ _ _ VS LS va vb ND W (HRd.out.rd.below (ext_below hE)) (HLd.out.rd.below (ext_below hE)) Hvg.out).mono (by rintro e W' ⟨⟨A', c', rfl, hr, hp⟩, hb⟩; exact ⟨_, rfl, hb, ⟨A', c', rfl, hr, hp⟩, trivial⟩))
      · intro a W hE hb hs
        have h8 : a.eval (.tmp 8) = .pointer (some ⟨B8, 0, none⟩) := hb 8 (by decide)
        refine flow0 rfl ?_
        exact val_load_row 33 _ rfl B8 0 h8 (grV GA N gc GB M gd) d33 (Blk.range (HG.out.below (ext_below hE) HG.out.lt)) hd33 hrow33 (by rw [grV_len]; kernel_rfl) ⟨rfl, trivial⟩
      · intro a W hE hb hs
        have h12 : a.eval (.tmp 12) = .int .i64 vb := hb 12 (by decide)
        refine flow0 rfl ?_
        exact val_move _ rfl _ h12 ⟨rfl, trivial⟩
      · intro a W hE hb hs
        have h13 : a.eval (.tmp 13) = .int .i64 vc := hb 13 (by decide)
        refine flow0 rfl ?_
        exact val_move _ rfl _ h13 ⟨rfl, trivial⟩
      · intro a W hE hb hs
        have h9 : a.eval (.tmp 9) = .pointer (some ⟨B9, 0, none⟩) := hb 9 (by decide)
        refine flow0 rfl ?_
        exact val_load_row 28 _ rfl B9 0 h9 (ndV ND) d28 (Blk.range (HN.out.below (ext_below hE) HN.out.lt)) hd28 hrow28 (by rw [ndV_len]; kernel_rfl) ⟨rfl, trivial⟩
      · intro a W hE hb hs
        have h84 : a.eval (.tmp 84) = .int .i64 vb := hs 7 (by decide)
        have h85 : a.eval (.tmp 85) = .int .i64 vc := hs 8 (by decide)
        have h86 : a.eval (.tmp 86) = .agg (ndV ND).toArray := hs 9 (by decide)
        refine flow0 rfl ?_
        exact val_build 40 _ rfl [(0, .int .i64 vb), (1, .int .i64 vc), (2, .agg (ndV ND).toArray)] (by show [(0, a.eval (.tmp 84)), (1, a.eval (.tmp 85)), (2, a.eval (.tmp 86))] = _; rw [h84, h85, h86]) _ (built40 _ _ _) ⟨rfl, trivial⟩
      · intro a W hE hb hs
        have h83 : a.eval (.tmp 83) = .agg (grV GA N gc GB M gd).toArray := hs 6 (by decide)
        have h87 : a.eval (.tmp 87) = .agg (asV vb vc ND).toArray := hs 10 (by decide)
        refine flow0 rfl ?_
        exact val_call 18 _ _ rfl (by kernel_rfl) [.agg (grV GA N gc GB M gd).toArray, .agg (asV vb vc ND).toArray] (by show [a.eval (.tmp 83), a.eval (.tmp 87)] = _; rw [h83, h87]) ((path_C _ _ _ _ _ _ VS LS vb vc ND W (HRd.out.rd.below (ext_below hE)) (HLd.out.rd.below (ext_below hE)) Hvg.out).mono (by rintro e W' ⟨⟨A', c', rfl, hr, hp⟩, hb⟩; exact ⟨_, rfl, hb, ⟨A', c', rfl, hr, hp⟩, trivial⟩))
      · intro a W hE hb hs
        have h8 : a.eval (.tmp 8) = .pointer (some ⟨B8, 0, none⟩) := hb 8 (by decide)
        refine flow0 rfl ?_
        exact val_load_row 33 _ rfl B8 0 h8 (grV GA N gc GB M gd) d33 (Blk.range (HG.out.below (ext_below hE) HG.out.lt)) hd33 hrow33 (by rw [grV_len]; kernel_rfl) ⟨rfl, trivial⟩
      · intro a W hE hb hs
        have h11 : a.eval (.tmp 11) = .int .i64 va := hb 11 (by decide)
        refine flow0 rfl ?_
        exact val_move _ rfl _ h11 ⟨rfl, trivial⟩
      · intro a W hE hb hs
        have h13 : a.eval (.tmp 13) = .int .i64 vc := hb 13 (by decide)
        refine flow0 rfl ?_
        exact val_move _ rfl _ h13 ⟨rfl, trivial⟩
      · intro a W hE hb hs
        have h9 : a.eval (.tmp 9) = .pointer (some ⟨B9, 0, none⟩) := hb 9 (by decide)
        refine flow0 rfl ?_
        exact val_load_row 28 _ rfl B9 0 h9 (ndV ND) d28 (Blk.range (HN.out.below (ext_below hE) HN.out.lt)) hd28 hrow28 (by rw [ndV_len]; kernel_rfl) ⟨rfl, trivial⟩
      · intro a W hE hb hs
        have h90 : a.eval (.tmp 90) = .int .i64 va := hs 13 (by decide)
        have h91 : a.eval (.tmp 91) = .int .i64 vc := hs 14 (by decide)
        have h92 : a.eval (.tmp 92) = .agg (ndV ND).toArray := hs 15 (by decide)
        refine flow0 rfl ?_
        exact val_build 40 _ rfl [(0, .int .i64 va), (1, .int .i64 vc), (2, .agg (ndV ND).toArray)] (by show [(0, a.eval (.tmp 90)), (1, a.eval (.tmp 91)), (2, a.eval (.tmp 92))] = _; rw [h90, h91, h92]) _ (built40 _ _ _) ⟨rfl, trivial⟩
      · intro a W hE hb hs
        have h89 : a.eval (.tmp 89) = .agg (grV GA N gc GB M gd).toArray := hs 12 (by decide)
        have h93 : a.eval (.tmp 93) = .agg (asV va vc ND).toArray := hs 16 (by decide)
        refine flow0 rfl ?_
        exact val_call 18 _ _ rfl (by kernel_rfl) [.agg (grV GA N gc GB M gd).toArray, .agg (asV va vc ND).toArray] (by show [a.eval (.tmp 89), a.eval (.tmp 93)] = _; rw [h89, h93]) ((path_C _ _ _ _ _ _ VS LS va vc ND W (HRd.out.rd.below (ext_below hE)) (HLd.out.rd.below (ext_below hE)) Hvg.out).mono (by rintro e W' ⟨⟨A', c', rfl, hr, hp⟩, hb⟩; exact ⟨_, rfl, hb, ⟨A', c', rfl, hr, hp⟩, trivial⟩))
      · intro a W hE hb hs
        refine flow0 rfl ?_
        exact val_alloc _ rfl (rsV none 0 0 0 0).toArray _ i44 hi44 hz44 rfl ⟨⟨_, rfl, Blk.new _ _ _⟩, _, rfl, Nat.le_refl _, by rw [World.size_alloc]; omega⟩
      · intro a W hE hb hs
        refine flow0 rfl ?_
        exact val_alloc _ rfl (rsV none 0 0 0 0).toArray _ i44 hi44 hz44 rfl ⟨⟨_, rfl, Blk.new _ _ _⟩, _, rfl, Nat.le_refl _, by rw [World.size_alloc]; omega⟩
      · intro a W hE hb hs
        refine flow0 rfl ?_
        exact val_alloc _ rfl (rsV none 0 0 0 0).toArray _ i44 hi44 hz44 rfl ⟨⟨_, rfl, Blk.new _ _ _⟩, _, rfl, Nat.le_refl _, by rw [World.size_alloc]; omega⟩
    · intro f W hbW hT hp hd
      obtain ⟨A1, c1, e82, hr1, ok1⟩ : ∃ (A : Option Addr) (c : Nat), f 82 = .agg (rsV A (pathC VS LS ND va vb).1.length c (pathC VS LS ND va vb).2.1 (pathC VS LS ND va vb).2.2).toArray ∧ TRd W 3 1 A (pathC VS LS ND va vb).1.length ((castL (pathC VS LS ND va vb).1).map intV) ∧ PathOk VS LS ND va vb := hT 5 (by decide)
      obtain ⟨A2, c2, e88, hr2, ok2⟩ : ∃ (A : Option Addr) (c : Nat), f 88 = .agg (rsV A (pathC VS LS ND vb vc).1.length c (pathC VS LS ND vb vc).2.1 (pathC VS LS ND vb vc).2.2).toArray ∧ TRd W 3 1 A (pathC VS LS ND vb vc).1.length ((castL (pathC VS LS ND vb vc).1).map intV) ∧ PathOk VS LS ND vb vc := hT 11 (by decide)
      obtain ⟨A3, c3, e94, hr3, ok3⟩ : ∃ (A : Option Addr) (c : Nat), f 94 = .agg (rsV A (pathC VS LS ND va vc).1.length c (pathC VS LS ND va vc).2.1 (pathC VS LS ND va vc).2.2).toArray ∧ TRd W 3 1 A (pathC VS LS ND va vc).1.length ((castL (pathC VS LS ND va vc).1).map intV) ∧ PathOk VS LS ND va vc := hT 17 (by decide)
      obtain ⟨B14, eB14, hB14⟩ : ∃ B, f 14 = .pointer (some ⟨B, 0, none⟩) ∧ Blk W B 44 (rsV none 0 0 0 0).toArray := hT 18 (by decide)
      have lB14 : v6.heap.size ≤ B14 := by
        obtain ⟨b', h1, h2, _⟩ := hp 18 (by decide) rfl
        have h1' : f 14 = .pointer (some ⟨b', 0, none⟩) := h1
        rw [eB14] at h1'
        injection h1' with h; injection h with h; injection h with h
        omega
      obtain ⟨B15, eB15, hB15⟩ : ∃ B, f 15 = .pointer (some ⟨B, 0, none⟩) ∧ Blk W B 44 (rsV none 0 0 0 0).toArray := hT 19 (by decide)
      have lB15 : v6.heap.size ≤ B15 := by
        obtain ⟨b', h1, h2, _⟩ := hp 19 (by decide) rfl
        have h1' : f 15 = .pointer (some ⟨b', 0, none⟩) := h1
        rw [eB15] at h1'
        injection h1' with h; injection h with h; injection h with h
        omega
      obtain ⟨B16, eB16, hB16⟩ : ∃ B, f 16 = .pointer (some ⟨B, 0, none⟩) ∧ Blk W B 44 (rsV none 0 0 0 0).toArray := hT 20 (by decide)
      have lB16 : v6.heap.size ≤ B16 := by
        obtain ⟨b', h1, h2, _⟩ := hp 20 (by decide) rfl
        have h1' : f 16 = .pointer (some ⟨b', 0, none⟩) := h1
        rw [eB16] at h1'
        injection h1' with h; injection h with h; injection h with h
        omega
      have nB14B15 : B14 ≠ B15 := fun e => hd 18 19 (by decide) (by decide) (by decide) rfl rfl (by show f 14 = f 15; rw [eB14, eB15, e])
      have nB15B14 : B15 ≠ B14 := fun e => nB14B15 e.symm
      have nB14B16 : B14 ≠ B16 := fun e => hd 18 20 (by decide) (by decide) (by decide) rfl rfl (by show f 14 = f 16; rw [eB14, eB16, e])
      have nB16B14 : B16 ≠ B14 := fun e => nB14B16 e.symm
      have nB15B16 : B15 ≠ B16 := fun e => hd 19 20 (by decide) (by decide) (by decide) rfl rfl (by show f 15 = f 16; rw [eB15, eB16, e])
      have nB16B15 : B16 ≠ B15 := fun e => nB15B16 e.symm
      have hbZ := hbW
      have HK0 := (KeptIn.refl (fun k => k ≠ B14) (W)).setRow (g := B14) (fun h => h rfl) (rsV A1 (pathC VS LS ND va vb).1.length c1 (pathC VS LS ND va vb).2.1 (pathC VS LS ND va vb).2.2).toArray
      have sB14 := hB14
      replace hB15 := hB15.keptIn HK0 nB15B14
      replace hB16 := hB16.keptIn HK0 nB16B14
      replace hB14 : Blk ((W).setRow B14 (rsV A1 (pathC VS LS ND va vb).1.length c1 (pathC VS LS ND va vb).2.1 (pathC VS LS ND va vb).2.2).toArray) B14 44 (rsV A1 (pathC VS LS ND va vb).1.length c1 (pathC VS LS ND va vb).2.1 (pathC VS LS ND va vb).2.2).toArray := setRow_heap _ _ _ _ _ _ sB14
      replace hbZ := Below.setRow hbZ lB14 (rsV A1 (pathC VS LS ND va vb).1.length c1 (pathC VS LS ND va vb).2.1 (pathC VS LS ND va vb).2.2).toArray
      have HK1 := (KeptIn.refl (fun k => k ≠ B15) ((W).setRow B14 (rsV A1 (pathC VS LS ND va vb).1.length c1 (pathC VS LS ND va vb).2.1 (pathC VS LS ND va vb).2.2).toArray)).setRow (g := B15) (fun h => h rfl) (rsV A2 (pathC VS LS ND vb vc).1.length c2 (pathC VS LS ND vb vc).2.1 (pathC VS LS ND vb vc).2.2).toArray
      have sB15 := hB15
      replace hB14 := hB14.keptIn HK1 nB14B15
      replace hB16 := hB16.keptIn HK1 nB16B15
      replace hB15 : Blk (((W).setRow B14 (rsV A1 (pathC VS LS ND va vb).1.length c1 (pathC VS LS ND va vb).2.1 (pathC VS LS ND va vb).2.2).toArray).setRow B15 (rsV A2 (pathC VS LS ND vb vc).1.length c2 (pathC VS LS ND vb vc).2.1 (pathC VS LS ND vb vc).2.2).toArray) B15 44 (rsV A2 (pathC VS LS ND vb vc).1.length c2 (pathC VS LS ND vb vc).2.1 (pathC VS LS ND vb vc).2.2).toArray := setRow_heap _ _ _ _ _ _ sB15
      replace hbZ := Below.setRow hbZ lB15 (rsV A2 (pathC VS LS ND vb vc).1.length c2 (pathC VS LS ND vb vc).2.1 (pathC VS LS ND vb vc).2.2).toArray
      have HK2 := (KeptIn.refl (fun k => k ≠ B16) (((W).setRow B14 (rsV A1 (pathC VS LS ND va vb).1.length c1 (pathC VS LS ND va vb).2.1 (pathC VS LS ND va vb).2.2).toArray).setRow B15 (rsV A2 (pathC VS LS ND vb vc).1.length c2 (pathC VS LS ND vb vc).2.1 (pathC VS LS ND vb vc).2.2).toArray)).setRow (g := B16) (fun h => h rfl) (rsV A3 (pathC VS LS ND va vc).1.length c3 (pathC VS LS ND va vc).2.1 (pathC VS LS ND va vc).2.2).toArray
      have sB16 := hB16
      replace hB14 := hB14.keptIn HK2 nB14B16
      replace hB15 := hB15.keptIn HK2 nB15B16
      replace hB16 : Blk ((((W).setRow B14 (rsV A1 (pathC VS LS ND va vb).1.length c1 (pathC VS LS ND va vb).2.1 (pathC VS LS ND va vb).2.2).toArray).setRow B15 (rsV A2 (pathC VS LS ND vb vc).1.length c2 (pathC VS LS ND vb vc).2.1 (pathC VS LS ND vb vc).2.2).toArray).setRow B16 (rsV A3 (pathC VS LS ND va vc).1.length c3 (pathC VS LS ND va vc).2.1 (pathC VS LS ND va vc).2.2).toArray) B16 44 (rsV A3 (pathC VS LS ND va vc).1.length c3 (pathC VS LS ND va vc).2.1 (pathC VS LS ND va vc).2.2).toArray := setRow_heap _ _ _ _ _ _ sB16
      replace hbZ := Below.setRow hbZ lB16 (rsV A3 (pathC VS LS ND va vc).1.length c3 (pathC VS LS ND va vc).2.1 (pathC VS LS ND va vc).2.2).toArray
      simp only [List.drop_succ_cons, List.drop_zero]
      simp only [putV, List.foldl_cons, List.foldl_nil, Act.put, List.setIfInBounds_toArray, List.set_cons_succ, List.set_cons_zero]
      rw [eB14, eB15, eB16, e82, e88, e94]
      refine wpList_store_row rfl 44 (.tmp 14) (.tmp 82) rfl B14 (rsV A1 (pathC VS LS ND va vb).1.length c1 (pathC VS LS ND va vb).2.1 (pathC VS LS ND va vb).2.2).toArray rfl rfl 44 (rsV none 0 0 0 0).toArray sB14 (size44 _ rfl) rfl (rs_one _ _ _ _ _) ?_
      refine wpList_store_row rfl 44 (.tmp 15) (.tmp 88) rfl B15 (rsV A2 (pathC VS LS ND vb vc).1.length c2 (pathC VS LS ND vb vc).2.1 (pathC VS LS ND vb vc).2.2).toArray rfl rfl 44 (rsV none 0 0 0 0).toArray sB15 (size44 _ rfl) rfl (rs_one _ _ _ _ _) ?_
      refine wpList_store_row rfl 44 (.tmp 16) (.tmp 94) rfl B16 (rsV A3 (pathC VS LS ND va vc).1.length c3 (pathC VS LS ND va vc).2.1 (pathC VS LS ND va vc).2.2).toArray rfl rfl 44 (rsV none 0 0 0 0).toArray sB16 (size44 _ rfl) rfl (rs_one _ _ _ _ _) ?_
      refine wpList_nil ?_
      have HX := Lib.hid (And.intro hB14 (And.intro hB15 (And.intro hB16 (And.intro ok1 (And.intro ok2 (And.intro ok3 hbZ))))))
      clear hT hp hd HK0 HK1 HK2 sB14 sB15 sB16 hB14 hB15 hB16 hbZ hbW ok1 ok2 ok3 hr1 hr2 hr3
      go_wp2_with fail
      go_meet
      exact ⟨B14, B15, B16, A1, A2, A3, c1, c2, c3, rfl, rfl, rfl, HX.out⟩
  case' rest => skip
  obtain ⟨B14, B15, B16, A1, A2, A3, c1, c2, c3, rfl, rfl, rfl, h14, h15, h16, ok1, ok2, ok3, hb7⟩ := hcut
  obtain ⟨v7, h_⟩ : ∃ v, v = wc := ⟨_, rfl⟩
  subst h_
  have HB7 := Lib.hid (HB.out.trans (hb7.mono HB.out.size))
  have hdet := detour Hvg.out ok1 ok2 ok3
  obtain ⟨⟨L1, n1, x1⟩, hp1⟩ : ∃ p, p = pathC VS LS ND va vb := ⟨_, rfl⟩
  obtain ⟨⟨L2, n2, x2⟩, hp2⟩ : ∃ p, p = pathC VS LS ND vb vc := ⟨_, rfl⟩
  obtain ⟨⟨L3, n3, x3⟩, hp3⟩ : ∃ p, p = pathC VS LS ND va vc := ⟨_, rfl⟩
  have hbk : -10000000000 ≤ n1 ∧ n1 ≤ 10000000000 := by have := pathC_bd Hvg.out ok1; rw [← hp1] at this; exact this
  have hbk2 : -10000000000 ≤ n2 ∧ n2 ≤ 10000000000 := by have := pathC_bd Hvg.out ok2; rw [← hp2] at this; exact this
  rw [← hp1] at h14 hdet
  rw [← hp2] at h15 hdet
  rw [← hp3] at h16 hdet
  have c14 : v7.cell? ⟨B14, 1, none⟩ = some (.int .i64 n1) := by rw [h14.cell]; rfl
  have c14e : v7.cell? ⟨B14, 2, none⟩ = some (.int .i64 x1) := by rw [h14.cell]; rfl
  have c15 : v7.cell? ⟨B15, 1, none⟩ = some (.int .i64 n2) := by rw [h15.cell]; rfl
  have c15e : v7.cell? ⟨B15, 2, none⟩ = some (.int .i64 x2) := by rw [h15.cell]; rfl
  have c16 : v7.cell? ⟨B16, 1, none⟩ = some (.int .i64 n3) := by rw [h16.cell]; rfl
  have c16e : v7.cell? ⟨B16, 2, none⟩ = some (.int .i64 x3) := by rw [h16.cell]; rfl
  have Hdet := Lib.hid hdet
  clear h14 h15 h16 ok1 ok2 ok3 hb7 HB hp1 hp2 hp3 hdet
  by_cases e1 : x1 = 0
  rotate_left
  · have q1 : (x1 == 0) = false := by rw [beq_eq_false_iff_ne]; exact e1
    clear e1
    go_wp2_with fail
    go_ret
    exact ⟨rfl, HB7.out⟩
  by_cases e2 : x2 = 0
  rotate_left
  · have q1 : (x2 == 0) = false := by rw [beq_eq_false_iff_ne]; exact e2
    subst e1
    clear e2
    go_wp2_with fail
    go_ret
    exact ⟨rfl, HB7.out⟩
  obtain ⟨e3, e4⟩ := Hdet.out e1 e2
  have q4 : decide (n1 + n2 < n3) = false := decide_eq_false (by simp only at e4; omega)
  simp only at e3
  subst e1
  subst e2
  subst e3
  clear e4
  go_wp2_with fail
  go_ret
  exact ⟨rfl, HB7.out⟩
end Go.Proofs.Ytgelchbbknckcaa
