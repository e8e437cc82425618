/- The law GraphMatchesReference. -/
import Derived.Test.YtgelchbbknckcaaG33
import Derived.Test.YtgelchbbknckcaaFlowT
import Derived.Test.YtgelchbbknckcaaG20
namespace Go.Proofs.Ytgelchbbknckcaa
open Go.RowKit Go.Sort

theorem w8_xor (x y : UInt8) : bits .xor .u8 (x.toNat : Int) (y.toNat : Int) = ((x ^^^ y).toNat : Int) := by
  rw [u8_xor_nat _ _ x.toNat_lt y.toNat_lt, UInt8.toNat_xor]
theorem info40 : (Try.prog.info? 40).map (fun i => (i.zero, i.size, i.bytes)) = some (some (.agg (asV 0 0 nd0).toArray), 7, 56) := by kernel_rfl
theorem size40 (cs : Array Value) (h : cs.size = 7) : (Try.prog.info? 40).map (·.size) = some cs.size := by rw [h]; kernel_rfl
theorem as_one (f t : Int) (n : Nd) : (asV f t n).toArray.all (·.oneCell') = true := all_oneCell_toArray fun v hv => by
  simp only [asV, ndV, Nd.list, List.map_cons, List.map_nil, List.mem_append, List.mem_cons, List.not_mem_nil, or_false] at hv
  rcases hv with (rfl | rfl) | rfl | rfl | rfl | rfl | rfl <;> rfl
def spReR (vs : List Int) (ls : List Ln) (lim : Nd) (fr : Int) : Spec := ⟨fun v W => ∃ (A : Option Addr) (c : Nat), v = .slice A (reachC vs ls lim fr).length c ∧ Rd W 1 A (reachC vs ls lim fr).length ((reachC vs ls lim fr).map intV) ∧ ReachOk vs ls lim fr, fun _ _ _ ⟨A, c, h1, h2, h3⟩ hb => ⟨A, c, h1, h2.below hb, h3⟩⟩
def spReX (vs : List Int) (ls : List Ln) (lim : Nd) (fr : Int) : Spec := ⟨fun v W => ∃ (A : Option Addr) (c : Nat) (xs : List Int), v = .slice A xs.length c ∧ Rd W 1 A xs.length (xs.map intV) ∧ (ReachOk vs ls lim fr → xs = reachC vs ls lim fr), fun _ _ _ ⟨A, c, xs, h1, h2, h3⟩ hb => ⟨A, c, xs, h1, h2.below hb, h3⟩⟩
def spPx (vs : List Int) (ls : List Ln) (lim : Nd) (fr tv : Int) : Spec := ⟨fun v W => ∃ (A : Option Addr) (c : Nat) (L : List Nat) (k x : Int), v = .agg (rsV A L.length c k x).toArray ∧ TRd W 3 1 A L.length ((castL L).map intV) ∧ (PathOk vs ls lim fr tv → (L, k, x) = pathC vs ls lim fr tv), fun _ _ _ ⟨A, c, L, k, x, h1, h2, h3⟩ hb => ⟨A, c, L, k, x, h1, h2.below hb, h3⟩⟩

set_option maxRecDepth 100000 in
set_option maxHeartbeats 4000000 in
theorem GraphMatchesReference_any (A : Option Addr) (n c : Nat) (B : Option Addr) (m d : Nat) (xs : List UInt8) (ys : List R6) (w0 w1 : UInt8) (MO : Nd) (w : World) (hr : Rd w 1 A n (xs.map byteV)) (hl : Rd w 6 B m (ys.flatMap r6V)) :
    Calls Try.prog 3 #[.agg (grV A n c B m d).toArray, .agg #[byteV w0, byteV w1], .agg (ndV MO).toArray] w fun e w' => e = .returned (.bool true) ∧ Below w.heap.size w w' := by
  obtain ⟨i40, hi40, hz40, hs40, hy40⟩ := info_parts info40
  obtain ⟨d40, hd40, hrow40⟩ := und40
  obtain ⟨i28, hi28, hz28, hs28, hy28⟩ := info_parts info28
  obtain ⟨i33, hi33, hz33, hs33, hy33⟩ := info_parts info33
  obtain ⟨i44, hi44, hz44, hs44, hy44⟩ := info_parts info44
  obtain ⟨i53, hi53, hz53, hs53, hy53⟩ := info_parts info53
  obtain ⟨d25, hd25, hrow25⟩ := und25
  obtain ⟨d28, hd28, hrow28⟩ := und28
  obtain ⟨d33, hd33, hrow33⟩ := und33
  obtain ⟨d44, hd44, hrow44⟩ := und44
  obtain ⟨d53, hd53, hrow53⟩ := und53
  have hxl := hr.len1
  obtain ⟨N, hN⟩ : ∃ N, N = min n 7 := ⟨_, rfl⟩
  obtain ⟨M, hM⟩ : ∃ M, M = madeM xs ys := ⟨_, rfl⟩
  obtain ⟨VS, hVS⟩ : ∃ VS, VS = verN xs (min n 7) := ⟨_, rfl⟩
  obtain ⟨LS, hLS⟩ : ∃ LS, LS = madeL xs ys := ⟨_, rfl⟩
  have hvg : Vg VS LS := by rw [hVS, hLS]; exact made_vg xs ys hxl
  have hbd : ∀ x ∈ VS, 1 ≤ x ∧ x ≤ 21 := fun x hx => by rw [hVS] at hx; have := verN_bd hx; omega
  have hVl : VS.length = N := by rw [hVS, hN, verN_len]
  have hLl : LS.length = M := by rw [hLS, hM, madeL_len]
  have hM14 : M ≤ 14 := by rw [hM]; exact madeM_le xs ys
  have Hr := Lib.hid hr
  have Hl := Lib.hid hl
  have Hvg := Lib.hid hvg
  have Hbd := Lib.hid hbd
  have HVl := Lib.hid hVl
  have HLl := Lib.hid hLl
  have HNe := Lib.hid hN
  have hN7 : N ≤ 7 := by omega
  have hMade : ∀ W : World, Rd W 1 A n (xs.map byteV) → Rd W 6 B m (ys.flatMap r6V) → Calls Try.prog 12 #[.agg (grV A n c B m d).toArray] W fun e w' => (∃ A' c' B' d', e = .returned (.agg (grV A' N c' B' M d').toArray) ∧ TRd w' 3 1 A' N (VS.map intV) ∧ TRd w' 53 8 B' M (LS.flatMap lnV)) ∧ Below W.heap.size W w' := fun W h1 h2 => by
    rw [hN, hM, hVS, hLS]; exact Made_C A n c B m d xs ys W h1 h2
  have HMade := Lib.hid hMade
  clear hr hl hvg hbd hxl hN hM hVS hLS hMade hVl hLl
  go_enter Try.func3, Try.ntmps3
  go_upto_region 1 with fail
  try simp only [World.size_alloc]
  obtain ⟨v1, hv1⟩ : ∃ v, v = ((w.alloc (.cells (grV A n c B m d).toArray 25)).alloc (.cells #[byteV w0, byteV w1] 26)).alloc (.cells (ndV MO).toArray 28) := ⟨_, rfl⟩
  have hB : Below w.heap.size w v1 := by rw [hv1]; exact ((((Below.refl _ _).alloc (Nat.le_refl _) _).alloc (by simp) _).alloc (by simp; omega) _)
  have hC : Blk v1 (w.heap.size) 25 (grV A n c B m d).toArray := by
    have := Blk.new w 25 (grV A n c B m d).toArray
    rw [hv1]; exact ((this.alloc _).alloc _)
  have hX0 : Blk v1 (w.heap.size + 1) 26 #[byteV w0, byteV w1] := by
    have := Blk.new (w.alloc (.cells (grV A n c B m d).toArray 25)) 26 #[byteV w0, byteV w1]
    rw [World.size_alloc] at this
    rw [hv1]; exact (this.alloc _)
  have hX1 : Blk v1 (w.heap.size + 1 + 1) 28 (ndV MO).toArray := by
    have := Blk.new ((w.alloc (.cells (grV A n c B m d).toArray 25)).alloc (.cells #[byteV w0, byteV w1] 26)) 28 (ndV MO).toArray
    rw [World.size_alloc, World.size_alloc] at this
    rw [hv1]; exact this
  rw [← hv1]
  clear hv1
  have HC := Lib.hid hC
  have HX0 := Lib.hid hX0
  have HX1 := Lib.hid hX1
  have HB := Lib.hid hB
  clear hC hX0 hX1 hB
  go_upto_region 2 with fail
  refine (sanity_any v1).mono ?_
  rintro e v2 ⟨rfl, hb2⟩
  replace HC := Lib.hid (HC.out.below hb2 HC.out.lt)
  replace HX0 := Lib.hid (HX0.out.below hb2 HX0.out.lt)
  replace HX1 := Lib.hid (HX1.out.below hb2 HX1.out.lt)
  replace HB := Lib.hid (HB.out.trans (hb2.mono HB.out.size))
  clear hb2
  replace Hr := Lib.hid (Hr.out.below HB.out)
  replace Hl := Lib.hid (Hl.out.below HB.out)
  go_upto_region 2 with fail
  have Hrw := Lib.hid (Blk.range HC.out)
  have Hn_ := Lib.hid (fun W : World => (Blk.new W 33 (grV none 0 0 none 0 0).toArray))
  go_upto_region 3 with (refine wpList_load_mid rfl 25 (.tmp 3) rfl w.heap.size 0 rfl (grV A n c B m d) d25 Hrw.out hd25 hrow25 (by rw [grV_len]; kernel_rfl) ?_)
  refine (HMade.out v2 Hr.out Hl.out).mono ?_
  rintro e v3 ⟨⟨GA, gc, GB, gd, rfl, h1, h2⟩, hb3⟩
  replace HC := Lib.hid (HC.out.below hb3 HC.out.lt)
  replace HX0 := Lib.hid (HX0.out.below hb3 HX0.out.lt)
  replace HX1 := Lib.hid (HX1.out.below hb3 HX1.out.lt)
  replace HB := Lib.hid (HB.out.trans (hb3.mono HB.out.size))
  clear hb3
  have HRd := Lib.hid h1
  have HLd := Lib.hid h2
  clear h1 h2 Hrw Hr Hl HMade
  have Hg_ := Lib.hid (Hn_.out v3)
  go_upto_region 3 with (first | (refine wpList_alloc0 rfl 33 rfl (grV none 0 0 none 0 0).toArray _ i33 hi33 hz33 rfl ?_; simp only [Act.put, List.setIfInBounds_toArray, List.set_cons_succ, List.set_cons_zero]) | (refine wpList_store_row rfl 33 (.tmp 8) (.tmp 18) rfl v3.heap.size (grV GA N gc GB M gd).toArray rfl rfl 33 (grV none 0 0 none 0 0).toArray Hg_.out (size33 _ rfl) rfl (gr_one _ _ _ _ _ _) ?_))
  obtain ⟨v4, hv4⟩ : ∃ v, v = (v3.alloc (.cells (grV none 0 0 none 0 0).toArray 33)).setRow v3.heap.size (grV GA N gc GB M gd).toArray := ⟨_, rfl⟩
  have hb4 : Below v3.heap.size v3 v4 := by rw [hv4]; exact Below.setRow ((Below.refl _ _).alloc (Nat.le_refl _) _) (Nat.le_refl _) _
  have hG4 : Blk v4 v3.heap.size 33 (grV GA N gc GB M gd).toArray := by rw [hv4]; exact setRow_heap _ _ _ _ _ _ Hg_.out
  rw [← hv4]
  clear hv4 Hg_ Hn_
  obtain ⟨BG, hBG⟩ : ∃ v, v = v3.heap.size := ⟨_, rfl⟩
  rw [← hBG] at hG4 ⊢
  clear hBG
  have HG := Lib.hid hG4
  clear hG4
  replace HC := Lib.hid (HC.out.below hb4 HC.out.lt)
  replace HX0 := Lib.hid (HX0.out.below hb4 HX0.out.lt)
  replace HX1 := Lib.hid (HX1.out.below hb4 HX1.out.lt)
  replace HRd := Lib.hid (HRd.out.below hb4)
  replace HLd := Lib.hid (HLd.out.below hb4)
  replace HB := Lib.hid (HB.out.trans (hb4.mono HB.out.size))
  clear hb4
  have d0 : v4.cell? ⟨w.heap.size + 1, 0, none⟩ = some (.int .u8 (w0.toNat : Int)) := by rw [HX0.out.cell]; rfl
  have d1 : v4.cell? ⟨w.heap.size + 1, 1, none⟩ = some (.int .u8 (w1.toNat : Int)) := by rw [HX0.out.cell]; rfl
  have hxor : bits .xor .u8 (w0.toNat : Int) (w1.toNat : Int) = ((w0 ^^^ w1).toNat : Int) := w8_xor w0 w1
  have Hnb := Lib.hid (fun W : World => (Blk.new W 28 (ndV nd0).toArray))
  simp only [Act.put]
  obtain ⟨ND, hND⟩ : ∃ x, x = needN w0 w1 (w0 ^^^ w1) := ⟨_, rfl⟩
  have hN9 := Need_any w0 w1 (w0 ^^^ w1) v4
  rw [show byteV (w0 ^^^ w1) = .int .u8 ((w0.toNat ^^^ w1.toNat : Nat) : Int) from by unfold byteV; rw [UInt8.toNat_xor], ← hND] at hN9
  have HN9 := Lib.hid (show Calls Try.prog 13 #[.agg #[.int .u8 (w0.toNat : Int), .int .u8 (w1.toNat : Int), .int .u8 ((w0.toNat ^^^ w1.toNat : Nat) : Int)]] v4 _ from hN9)
  clear hN9 hND
  go_upto_region 4 with fail
  -- MARK5
  refine HN9.out.mono ?_
  rintro e v5 ⟨rfl, hb5⟩
  replace HG := Lib.hid (HG.out.below hb5 HG.out.lt)
  replace HX0 := Lib.hid (HX0.out.below hb5 HX0.out.lt)
  replace HX1 := Lib.hid (HX1.out.below hb5 HX1.out.lt)
  replace HRd := Lib.hid (HRd.out.below hb5)
  replace HLd := Lib.hid (HLd.out.below hb5)
  replace HB := Lib.hid (HB.out.trans (hb5.mono HB.out.size))
  clear hb5
  clear HN9 d0 d1 hxor
  have Hg_ := Lib.hid (Hnb.out v5)
  go_upto_region 4 with (first | (refine wpList_alloc0 rfl 28 rfl (ndV nd0).toArray _ i28 hi28 hz28 rfl ?_; simp only [Act.put, List.setIfInBounds_toArray, List.set_cons_succ, List.set_cons_zero]) | (refine wpList_store_row rfl 28 (.tmp 9) (.tmp 29) rfl v5.heap.size (ndV ND).toArray rfl rfl 28 (ndV nd0).toArray Hg_.out (size28 _ rfl) rfl (nd_one _) ?_))
  obtain ⟨v6, hv6⟩ : ∃ v, v = (v5.alloc (.cells (ndV nd0).toArray 28)).setRow v5.heap.size (ndV ND).toArray := ⟨_, rfl⟩
  have hb6 : Below v5.heap.size v5 v6 := by rw [hv6]; exact Below.setRow ((Below.refl _ _).alloc (Nat.le_refl _) _) (Nat.le_refl _) _
  have hF6 : Blk v6 v5.heap.size 28 (ndV ND).toArray := by rw [hv6]; exact setRow_heap _ _ _ _ _ _ Hg_.out
  rw [← hv6]
  clear hv6 Hg_ Hnb
  obtain ⟨BF, hBF⟩ : ∃ v, v = v5.heap.size := ⟨_, rfl⟩
  rw [← hBF] at hF6 ⊢
  clear hBF
  have HF := Lib.hid hF6
  clear hF6 HC
  replace HG := Lib.hid (HG.out.below hb6 HG.out.lt)
  replace HX0 := Lib.hid (HX0.out.below hb6 HX0.out.lt)
  replace HX1 := Lib.hid (HX1.out.below hb6 HX1.out.lt)
  replace HRd := Lib.hid (HRd.out.below hb6)
  replace HLd := Lib.hid (HLd.out.below hb6)
  replace HB := Lib.hid (HB.out.trans (hb6.mono HB.out.size))
  clear hb6
  go_wp2_with fail
  go_loopw [10] (fun v10 wr => ∃ z : Int, v10 = .int .i64 z ∧ -1 ≤ z ∧ z ≤ 23 ∧ Below v6.heap.size v6 wr) (fun v10 _ => (24 - intOf v10).toNat)
  case atStart => exact ⟨-1, rfl, by omega, by omega, Below.refl _ _⟩
  case round =>
    obtain ⟨z, rfl, hz1, hz2, hBr⟩ := hrel
    by_cases hz : z ≤ 20
    · have d0 : decide (z ≤ 20) = true := decide_eq_true hz
      have HBr := Lib.hid hBr
      clear hBr
      go_upto_region 7 with fail
      clear d0
      have hbx := HBr.out
      replace HG := Lib.hid (HG.out.below hbx HG.out.lt)
      replace HF := Lib.hid (HF.out.below hbx HF.out.lt)
      replace HX1 := Lib.hid (HX1.out.below hbx HX1.out.lt)
      replace HRd := Lib.hid (HRd.out.below hbx)
      replace HLd := Lib.hid (HLd.out.below hbx)
      clear hbx
      go_cut [55] from 34 to 55 (fun t55 wx => t55 = .bool false ∧ Below wr.heap.size wr wx)
      case first =>
        refine wp_region_flowF [34, 35, 36, 37, 38, 39, 40, 41, 42, 43, 44, 45, 46, 47, 48, 49, 50, 51, 52, 53, 54, 55] [(Spec.is (.agg (grV GA N gc GB M gd).toArray), false), (Spec.is (.int .i64 z), false), (Spec.is (.agg (ndV MO).toArray), false), (spReR VS LS MO z, false), (Spec.is (.agg (grV GA N gc GB M gd).toArray), false), (Spec.is (.int .i64 z), false), (Spec.is (.agg (ndV MO).toArray), false), (spReX VS LS MO z, false), (Spec.is (.bool true), false), (Spec.is (.bool false), false), (Spec.is (.bool false), false), (Spec.is (.agg (grV GA N gc GB M gd).toArray), false), (Spec.is (.int .i64 z), false), (Spec.is (.agg (ndV ND).toArray), false), (spReR VS LS ND z, false), (Spec.is (.agg (grV GA N gc GB M gd).toArray), false), (Spec.is (.int .i64 z), false), (Spec.is (.agg (ndV ND).toArray), false), (spReX VS LS ND z, false), (Spec.is (.bool true), false), (Spec.is (.bool false), false), (Spec.is (.bool false), false)] 150 (by kernel_rfl) rfl (by decide) rfl (by decide) (by kernel_rfl) ?_ ?_
        · refine ⟨?_, ?_, ?_, ?_, ?_, ?_, ?_, ?_, ?_, ?_, ?_, ?_, ?_, ?_, ?_, ?_, ?_, ?_, ?_, ?_, ?_, ?_, trivial⟩
          · intro a W hE hb hs
            have h8 : a.eval (.tmp 8) = .pointer (some ⟨BG, 0, none⟩) := hb 8 (by decide)
            refine flow0 rfl ?_
            exact val_load_row 33 _ rfl BG 0 h8 (grV GA N gc GB M gd) d33 (Blk.range (HG.out.below (ext_below hE) HG.out.lt)) hd33 hrow33 (by rw [grV_len]; kernel_rfl) ⟨rfl, trivial⟩
          · intro a W hE hb hs
            have h10 : a.eval (.tmp 10) = .int .i64 z := hb 10 (by decide)
            refine flow0 rfl ?_
            exact val_move _ rfl _ h10 ⟨rfl, trivial⟩
          · intro a W hE hb hs
            have h5 : a.eval (.tmp 5) = .pointer (some ⟨w.heap.size + 1 + 1, 0, none⟩) := hb 5 (by decide)
            refine flow0 rfl ?_
            exact val_load_row 28 _ rfl (w.heap.size + 1 + 1) 0 h5 (ndV MO) d28 (Blk.range (HX1.out.below (ext_below hE) HX1.out.lt)) hd28 hrow28 (by rw [ndV_len]; kernel_rfl) ⟨rfl, trivial⟩
          · intro a W hE hb hs
            have h34 : a.eval (.tmp 34) = .agg (grV GA N gc GB M gd).toArray := hs 0 (by decide)
            have h35 : a.eval (.tmp 35) = .int .i64 z := hs 1 (by decide)
            have h36 : a.eval (.tmp 36) = .agg (ndV MO).toArray := hs 2 (by decide)
            refine flow0 rfl ?_
            exact val_call 15 _ _ rfl (by kernel_rfl) [.agg (grV GA N gc GB M gd).toArray, .int .i64 z, .agg (ndV MO).toArray] (by show [a.eval (.tmp 34), a.eval (.tmp 35), a.eval (.tmp 36)] = _; rw [h34, h35, h36]) ((Reach_C _ _ _ _ _ _ VS LS z MO W (HRd.out.rd.below (ext_below hE)) (HLd.out.rd.below (ext_below hE)) Hvg.out).mono (by rintro e W' ⟨⟨A', c', rfl, hr, hk⟩, hb⟩; exact ⟨_, rfl, hb, ⟨A', c', rfl, hr, hk⟩, trivial⟩))
          · intro a W hE hb hs
            have h8 : a.eval (.tmp 8) = .pointer (some ⟨BG, 0, none⟩) := hb 8 (by decide)
            refine flow0 rfl ?_
            exact val_load_row 33 _ rfl BG 0 h8 (grV GA N gc GB M gd) d33 (Blk.range (HG.out.below (ext_below hE) HG.out.lt)) hd33 hrow33 (by rw [grV_len]; kernel_rfl) ⟨rfl, trivial⟩
          · intro a W hE hb hs
            have h10 : a.eval (.tmp 10) = .int .i64 z := hb 10 (by decide)
            refine flow0 rfl ?_
            exact val_move _ rfl _ h10 ⟨rfl, trivial⟩
          · intro a W hE hb hs
            have h5 : a.eval (.tmp 5) = .pointer (some ⟨w.heap.size + 1 + 1, 0, none⟩) := hb 5 (by decide)
            refine flow0 rfl ?_
            exact val_load_row 28 _ rfl (w.heap.size + 1 + 1) 0 h5 (ndV MO) d28 (Blk.range (HX1.out.below (ext_below hE) HX1.out.lt)) hd28 hrow28 (by rw [ndV_len]; kernel_rfl) ⟨rfl, trivial⟩
          · intro a W hE hb hs
            have h38 : a.eval (.tmp 38) = .agg (grV GA N gc GB M gd).toArray := hs 4 (by decide)
            have h39 : a.eval (.tmp 39) = .int .i64 z := hs 5 (by decide)
            have h40 : a.eval (.tmp 40) = .agg (ndV MO).toArray := hs 6 (by decide)
            refine flow0 rfl ?_
            exact val_call 16 _ _ rfl (by kernel_rfl) [.agg (grV GA N gc GB M gd).toArray, .int .i64 z, .agg (ndV MO).toArray] (by show [a.eval (.tmp 38), a.eval (.tmp 39), a.eval (.tmp 40)] = _; rw [h38, h39, h40]) ((RReach_any _ _ _ _ _ _ VS LS z MO W (HRd.out.rd.below (ext_below hE)) (HLd.out.rd.below (ext_below hE)) Hvg.out).mono (by rintro e W' ⟨⟨A', c', xs, rfl, hr, hk⟩, hb⟩; exact ⟨_, rfl, hb, ⟨A', c', xs, rfl, hr, hk⟩, trivial⟩))
          · intro a W hE hb hs
            have h37 : ∃ (A : Option Addr) (c : Nat), (a.eval (.tmp 37)) = .slice A (reachC VS LS MO z).length c ∧ Rd W 1 A (reachC VS LS MO z).length ((reachC VS LS MO z).map intV) ∧ ReachOk VS LS MO z := hs 3 (by decide)
            have h41 : ∃ (A : Option Addr) (c : Nat) (xs : List Int), (a.eval (.tmp 41)) = .slice A xs.length c ∧ Rd W 1 A xs.length (xs.map intV) ∧ (ReachOk VS LS MO z → xs = reachC VS LS MO z) := hs 7 (by decide)
            refine flow0 rfl ?_
            obtain ⟨A1, c1, e1, r1, k1⟩ := h37
            obtain ⟨A2, c2, xs, e2, r2, k2⟩ := h41
            exact val_call 14 _ _ rfl (by kernel_rfl) [_, _] (by show [a.eval (.tmp 37), a.eval (.tmp 41)] = _; rw [e1, e2]) ((Ints_any A1 A2 _ _ c1 c2 _ xs W r1 r2).mono (by rintro e W' ⟨rfl, hb⟩; rw [decide_eq_true (k2 k1).symm]; exact ⟨_, rfl, hb, rfl, trivial⟩))
          · intro a W hE hb hs
            have h42 : a.eval (.tmp 42) = .bool true := hs 8 (by decide)
            refine flow0 rfl ?_
            exact val_not _ _ rfl _ h42 ⟨rfl, trivial⟩
          · intro a W hE hb hs
            have h43 : a.eval (.tmp 43) = .bool false := hs 9 (by decide)
            refine flow0 rfl ?_
            exact val_move _ rfl _ h43 ⟨rfl, trivial⟩
          · intro a W hE hb hs
            have h44 : a.eval (.tmp 44) = .bool false := hs 10 (by decide)
            have h8 : a.eval (.tmp 8) = .pointer (some ⟨BG, 0, none⟩) := hb 8 (by decide)
            refine flowY rfl rfl h44 ?_
            exact val_load_row 33 _ rfl BG 0 h8 (grV GA N gc GB M gd) d33 (Blk.range (HG.out.below (ext_below hE) HG.out.lt)) hd33 hrow33 (by rw [grV_len]; kernel_rfl) ⟨rfl, trivial⟩
          · intro a W hE hb hs
            have h44 : a.eval (.tmp 44) = .bool false := hs 10 (by decide)
            have h10 : a.eval (.tmp 10) = .int .i64 z := hb 10 (by decide)
            refine flowY rfl rfl h44 ?_
            exact val_move _ rfl _ h10 ⟨rfl, trivial⟩
          · intro a W hE hb hs
            have h44 : a.eval (.tmp 44) = .bool false := hs 10 (by decide)
            have h9 : a.eval (.tmp 9) = .pointer (some ⟨BF, 0, none⟩) := hb 9 (by decide)
            refine flowY rfl rfl h44 ?_
            exact val_load_row 28 _ rfl BF 0 h9 (ndV ND) d28 (Blk.range (HF.out.below (ext_below hE) HF.out.lt)) hd28 hrow28 (by rw [ndV_len]; kernel_rfl) ⟨rfl, trivial⟩
          · intro a W hE hb hs
            have h44 : a.eval (.tmp 44) = .bool false := hs 10 (by decide)
            have h45 : a.eval (.tmp 45) = .agg (grV GA N gc GB M gd).toArray := hs 11 (by decide)
            have h46 : a.eval (.tmp 46) = .int .i64 z := hs 12 (by decide)
            have h47 : a.eval (.tmp 47) = .agg (ndV ND).toArray := hs 13 (by decide)
            refine flowY rfl rfl h44 ?_
            exact val_call 15 _ _ rfl (by kernel_rfl) [.agg (grV GA N gc GB M gd).toArray, .int .i64 z, .agg (ndV ND).toArray] (by show [a.eval (.tmp 45), a.eval (.tmp 46), a.eval (.tmp 47)] = _; rw [h45, h46, h47]) ((Reach_C _ _ _ _ _ _ VS LS z ND W (HRd.out.rd.below (ext_below hE)) (HLd.out.rd.below (ext_below hE)) Hvg.out).mono (by rintro e W' ⟨⟨A', c', rfl, hr, hk⟩, hb⟩; exact ⟨_, rfl, hb, ⟨A', c', rfl, hr, hk⟩, trivial⟩))
          · intro a W hE hb hs
            have h44 : a.eval (.tmp 44) = .bool false := hs 10 (by decide)
            have h8 : a.eval (.tmp 8) = .pointer (some ⟨BG, 0, none⟩) := hb 8 (by decide)
            refine flowY rfl rfl h44 ?_
            exact val_load_row 33 _ rfl BG 0 h8 (grV GA N gc GB M gd) d33 (Blk.range (HG.out.below (ext_below hE) HG.out.lt)) hd33 hrow33 (by rw [grV_len]; kernel_rfl) ⟨rfl, trivial⟩
          · intro a W hE hb hs
            have h44 : a.eval (.tmp 44) = .bool false := hs 10 (by decide)
            have h10 : a.eval (.tmp 10) = .int .i64 z := hb 10 (by decide)
            refine flowY rfl rfl h44 ?_
            exact val_move _ rfl _ h10 ⟨rfl, trivial⟩
          · intro a W hE hb hs
            have h44 : a.eval (.tmp 44) = .bool false := hs 10 (by decide)
            have h9 : a.eval (.tmp 9) = .pointer (some ⟨BF, 0, none⟩) := hb 9 (by decide)
            refine flowY rfl rfl h44 ?_
            exact val_load_row 28 _ rfl BF 0 h9 (ndV ND) d28 (Blk.range (HF.out.below (ext_below hE) HF.out.lt)) hd28 hrow28 (by rw [ndV_len]; kernel_rfl) ⟨rfl, trivial⟩
          · intro a W hE hb hs
            have h44 : a.eval (.tmp 44) = .bool false := hs 10 (by decide)
            have h49 : a.eval (.tmp 49) = .agg (grV GA N gc GB M gd).toArray := hs 15 (by decide)
            have h50 : a.eval (.tmp 50) = .int .i64 z := hs 16 (by decide)
            have h51 : a.eval (.tmp 51) = .agg (ndV ND).toArray := hs 17 (by decide)
            refine flowY rfl rfl h44 ?_
            exact val_call 16 _ _ rfl (by kernel_rfl) [.agg (grV GA N gc GB M gd).toArray, .int .i64 z, .agg (ndV ND).toArray] (by show [a.eval (.tmp 49), a.eval (.tmp 50), a.eval (.tmp 51)] = _; rw [h49, h50, h51]) ((RReach_any _ _ _ _ _ _ VS LS z ND W (HRd.out.rd.below (ext_below hE)) (HLd.out.rd.below (ext_below hE)) Hvg.out).mono (by rintro e W' ⟨⟨A', c', xs, rfl, hr, hk⟩, hb⟩; exact ⟨_, rfl, hb, ⟨A', c', xs, rfl, hr, hk⟩, trivial⟩))
          · intro a W hE hb hs
            have h44 : a.eval (.tmp 44) = .bool false := hs 10 (by decide)
            have h48 : ∃ (A : Option Addr) (c : Nat), (a.eval (.tmp 48)) = .slice A (reachC VS LS ND z).length c ∧ Rd W 1 A (reachC VS LS ND z).length ((reachC VS LS ND z).map intV) ∧ ReachOk VS LS ND z := hs 14 (by decide)
            have h52 : ∃ (A : Option Addr) (c : Nat) (xs : List Int), (a.eval (.tmp 52)) = .slice A xs.length c ∧ Rd W 1 A xs.length (xs.map intV) ∧ (ReachOk VS LS ND z → xs = reachC VS LS ND z) := hs 18 (by decide)
            refine flowY rfl rfl h44 ?_
            obtain ⟨A1, c1, e1, r1, k1⟩ := h48
            obtain ⟨A2, c2, xs, e2, r2, k2⟩ := h52
            exact val_call 14 _ _ rfl (by kernel_rfl) [_, _] (by show [a.eval (.tmp 48), a.eval (.tmp 52)] = _; rw [e1, e2]) ((Ints_any A1 A2 _ _ c1 c2 _ xs W r1 r2).mono (by rintro e W' ⟨rfl, hb⟩; rw [decide_eq_true (k2 k1).symm]; exact ⟨_, rfl, hb, rfl, trivial⟩))
          · intro a W hE hb hs
            have h44 : a.eval (.tmp 44) = .bool false := hs 10 (by decide)
            have h53 : a.eval (.tmp 53) = .bool true := hs 19 (by decide)
            refine flowY rfl rfl h44 ?_
            exact val_not _ _ rfl _ h53 ⟨rfl, trivial⟩
          · intro a W hE hb hs
            have h44 : a.eval (.tmp 44) = .bool false := hs 10 (by decide)
            have h54 : a.eval (.tmp 54) = .bool false := hs 20 (by decide)
            refine flow0 rfl ?_
            exact val_pick _ _ _ rfl false h44 _ (by rw [if_neg (by decide)]; exact h54) ⟨rfl, trivial⟩
        · intro f W hbW hT hp hd
          have hres : f 55 = .bool false := hT 21 (by decide)
          simp only [putV, List.foldl_cons, List.foldl_nil, Act.put, List.setIfInBounds_toArray, List.set_cons_succ, List.set_cons_zero, Exit.then]
          rw [hres]
          have Hend := Lib.hid hbW
          clear hT hp hd hres hbW
          go_wp2_with fail
          go_meet
          exact ⟨rfl, Hend.out⟩
      case' rest => skip
      obtain ⟨rfl, hbn⟩ := hcut
      have HBz := Lib.hid (HBr.out.trans (hbn.mono HBr.out.size))
      clear hbn
      go_wp2_with fail
      exact ⟨⟨z + 3, by go_num, by omega, by omega, HBz.out⟩, by simp [intOf]; omega⟩
    have d0 : decide (z ≤ 20) = false := decide_eq_false hz
    go_wp2_with fail
    clear d0 hz hz1 hz2
    
    replace HG := Lib.hid (HG.out.below hBr HG.out.lt)
    replace HF := Lib.hid (HF.out.below hBr HF.out.lt)
    replace HX0 := Lib.hid (HX0.out.below hBr HX0.out.lt)
    replace HX1 := Lib.hid (HX1.out.below hBr HX1.out.lt)
    replace HRd := Lib.hid (HRd.out.below hBr)
    replace HLd := Lib.hid (HLd.out.below hBr)
    replace HB := Lib.hid (HB.out.trans (hBr.mono HB.out.size))
    clear hBr
    obtain ⟨v7, h_⟩ : ∃ v, v = wr := ⟨_, rfl⟩
    subst h_
    go_loopw [11] (fun v11 wr => ∃ i : Nat, v11 = .int .i64 (i : Int) ∧ i ≤ N ∧ Below v7.heap.size v7 wr) (fun v11 _ => N - (intOf v11).toNat)
    case atStart => exact ⟨0, rfl, by omega, Below.refl _ _⟩
    case round =>
      obtain ⟨i, rfl, hiN, hBr⟩ := hrel
      have HBr := Lib.hid hBr
      have g0 : wr.cell? ⟨BG, 0, none⟩ = some (.slice GA N gc) := by rw [(HG.out.below hBr HG.out.lt).cell]; rfl
      clear hBr
      by_cases li : i < N
      rotate_left
      · obtain rfl : N = i := by omega
        clear li
        have hbx := HBr.out
        replace HG := Lib.hid (HG.out.below hbx HG.out.lt)
        replace HF := Lib.hid (HF.out.below hbx HF.out.lt)
        replace HX0 := Lib.hid (HX0.out.below hbx HX0.out.lt)
        replace HX1 := Lib.hid (HX1.out.below hbx HX1.out.lt)
        replace HRd := Lib.hid (HRd.out.below hbx)
        replace HLd := Lib.hid (HLd.out.below hbx)
        replace HB := Lib.hid (HB.out.trans (hbx.mono HB.out.size))
        clear hbx
        have d0 : wr.cell? ⟨w.heap.size + 1, 0, none⟩ = some (.int .u8 (w0.toNat : Int)) := by rw [HX0.out.cell]; rfl
        have d1 : wr.cell? ⟨w.heap.size + 1, 1, none⟩ = some (.int .u8 (w1.toNat : Int)) := by rw [HX0.out.cell]; rfl
        have b0 := w0.toNat_lt
        have b1 := w1.toNat_lt
        have Hrf := Lib.hid (Blk.range HF.out)
        clear HBr
        -- MARK3
        have Hg_ := Lib.hid (Blk.new wr 40 (asV 0 0 nd0).toArray)
        go_upto_region 19 with (first | (refine wpList_load_mid rfl 28 (.tmp 9) rfl BF 0 rfl (ndV ND) d28 Hrf.out hd28 hrow28 (by rw [ndV_len]; kernel_rfl) ?_) | (refine wpList_buildN rfl 40 _ rfl [(0, .int .i64 ((w0.toNat : Int) % 24)), (1, .int .i64 ((w1.toNat : Int) % 24)), (2, .agg (ndV ND).toArray)] rfl _ (built40 _ _ _) ?_) | (refine wpList_alloc0 rfl 40 rfl (asV 0 0 nd0).toArray _ i40 hi40 hz40 rfl ?_; simp only [Act.put, List.setIfInBounds_toArray, List.set_cons_succ, List.set_cons_zero]) | (refine wpList_store_row rfl 40 (.tmp 15) (.tmp 121) rfl wr.heap.size (asV ((w0.toNat : Int) % 24) ((w1.toNat : Int) % 24) ND).toArray rfl rfl 40 (asV 0 0 nd0).toArray Hg_.out (size40 _ rfl) rfl (as_one _ _ _) ?_))
        obtain ⟨OF, hOF⟩ : ∃ x, x = (w0.toNat : Int) % 24 := ⟨_, rfl⟩
        obtain ⟨OT, hOT⟩ : ∃ x, x = (w1.toNat : Int) % 24 := ⟨_, rfl⟩
        rw [← hOF, ← hOT]
        obtain ⟨v9, hv9⟩ : ∃ v, v = (wr.alloc (.cells (asV 0 0 nd0).toArray 40)).setRow wr.heap.size (asV OF OT ND).toArray := ⟨_, rfl⟩
        have hb9 : Below wr.heap.size wr v9 := by rw [hv9]; exact Below.setRow ((Below.refl _ _).alloc (Nat.le_refl _) _) (Nat.le_refl _) _
        have hA9 : Blk v9 wr.heap.size 40 (asV OF OT ND).toArray := by rw [hv9]; exact setRow_heap _ _ _ _ _ _ Hg_.out
        rw [← hv9]
        clear hv9 Hg_ hOF hOT
        obtain ⟨B15, hB15⟩ : ∃ v, v = wr.heap.size := ⟨_, rfl⟩
        rw [← hB15] at hA9 ⊢
        clear hB15
        have HA3 := Lib.hid hA9
        clear hA9 d0 d1 b0 b1 Hrf HX0
        replace HG := Lib.hid (HG.out.below hb9 HG.out.lt)
        replace HF := Lib.hid (HF.out.below hb9 HF.out.lt)
        replace HX1 := Lib.hid (HX1.out.below hb9 HX1.out.lt)
        replace HRd := Lib.hid (HRd.out.below hb9)
        replace HLd := Lib.hid (HLd.out.below hb9)
        replace HB := Lib.hid (HB.out.trans (hb9.mono HB.out.size))
        clear hb9
        simp only [Act.put]
        go_cut [6] from 122 to 149 (fun t6 wx => t6 = .bool true ∧ Below v9.heap.size v9 wx)
        case first =>
          refine wp_region_flowF [122, 123, 124, 125, 126, 127, 128, 129, 130, 131, 132, 133, 134, 135, 136, 137, 138, 139, 140, 141, 142, 143, 144, 145, 146, 147, 148, 149, 6] [(Spec.is (.agg (grV GA N gc GB M gd).toArray), false), (Spec.is (.agg (asV OF OT ND).toArray), false), (spPa VS LS ND OF OT, false), (Spec.is (.agg (grV GA N gc GB M gd).toArray), false), (Spec.is (.agg (asV OF OT ND).toArray), false), (spPx VS LS ND OF OT, false), (Spec.is (.bool true), false), (Spec.is (.bool true), false), (Spec.is (.agg (ndV ND).toArray), false), (Spec.is (.agg (ndV MO).toArray), false), (Spec.is (.bool (fitsB ND MO)), false), (Spec.is (.agg (ndV ND).toArray), false), (Spec.is (.agg (ndV MO).toArray), false), (Spec.is (.bool (fitsB ND MO)), false), (Spec.is (.bool true), false), (Spec.is (.bool true), false), (Spec.is (.bool true), false), (Spec.is (.agg (ndV MO).toArray), false), (Spec.is (.agg (ndV ND).toArray), false), (Spec.is (.bool (fitsB MO ND)), false), (Spec.is (.agg (ndV MO).toArray), false), (Spec.is (.agg (ndV ND).toArray), false), (Spec.is (.bool (fitsB MO ND)), false), (Spec.is (.bool true), false), (Spec.is (.bool true), false), (Spec.is (.bool true), false), (Spec.is (.bool true), false), (Spec.is (.bool true), false), (Spec.is (.bool true), false)] 150 (by kernel_rfl) rfl (by decide) rfl (by decide) (by kernel_rfl) ?_ ?_
          · refine ⟨?_, ?_, ?_, ?_, ?_, ?_, ?_, ?_, ?_, ?_, ?_, ?_, ?_, ?_, ?_, ?_, ?_, ?_, ?_, ?_, ?_, ?_, ?_, ?_, ?_, ?_, ?_, ?_, ?_, trivial⟩
            · intro a W hE hb hs
              have h8 : a.eval (.tmp 8) = .pointer (some ⟨BG, 0, none⟩) := hb 8 (by decide)
              refine flow0 rfl ?_
              exact val_load_row 33 _ rfl BG 0 h8 (grV GA N gc GB M gd) d33 (Blk.range (HG.out.below (ext_below hE) HG.out.lt)) hd33 hrow33 (by rw [grV_len]; kernel_rfl) ⟨rfl, trivial⟩
            · intro a W hE hb hs
              have h15 : a.eval (.tmp 15) = .pointer (some ⟨B15, 0, none⟩) := hb 15 (by decide)
              refine flow0 rfl ?_
              exact val_load_row 40 _ rfl B15 0 h15 (asV OF OT ND) d40 (Blk.range (HA3.out.below (ext_below hE) HA3.out.lt)) hd40 hrow40 (by rw [asV_len]; kernel_rfl) ⟨rfl, trivial⟩
            · intro a W hE hb hs
              have h122 : a.eval (.tmp 122) = .agg (grV GA N gc GB M gd).toArray := hs 0 (by decide)
              have h123 : a.eval (.tmp 123) = .agg (asV OF OT ND).toArray := hs 1 (by decide)
              refine flow0 rfl ?_
              exact val_call 18 _ _ rfl (by kernel_rfl) [.agg (grV GA N gc GB M gd).toArray, .agg (asV OF OT ND).toArray] (by show [a.eval (.tmp 122), a.eval (.tmp 123)] = _; rw [h122, h123]) ((path_C _ _ _ _ _ _ VS LS OF OT ND W (HRd.out.rd.below (ext_below hE)) (HLd.out.rd.below (ext_below hE)) Hvg.out).mono (by rintro e W' ⟨⟨A', c', rfl, hr, hp⟩, hb⟩; exact ⟨_, rfl, hb, ⟨A', c', rfl, hr, hp⟩, trivial⟩))
            · intro a W hE hb hs
              have h8 : a.eval (.tmp 8) = .pointer (some ⟨BG, 0, none⟩) := hb 8 (by decide)
              refine flow0 rfl ?_
              exact val_load_row 33 _ rfl BG 0 h8 (grV GA N gc GB M gd) d33 (Blk.range (HG.out.below (ext_below hE) HG.out.lt)) hd33 hrow33 (by rw [grV_len]; kernel_rfl) ⟨rfl, trivial⟩
            · intro a W hE hb hs
              have h15 : a.eval (.tmp 15) = .pointer (some ⟨B15, 0, none⟩) := hb 15 (by decide)
              refine flow0 rfl ?_
              exact val_load_row 40 _ rfl B15 0 h15 (asV OF OT ND) d40 (Blk.range (HA3.out.below (ext_below hE) HA3.out.lt)) hd40 hrow40 (by rw [asV_len]; kernel_rfl) ⟨rfl, trivial⟩
            · intro a W hE hb hs
              have h125 : a.eval (.tmp 125) = .agg (grV GA N gc GB M gd).toArray := hs 3 (by decide)
              have h126 : a.eval (.tmp 126) = .agg (asV OF OT ND).toArray := hs 4 (by decide)
              refine flow0 rfl ?_
              exact val_call 19 _ _ rfl (by kernel_rfl) [.agg (grV GA N gc GB M gd).toArray, .agg (asV OF OT ND).toArray] (by show [a.eval (.tmp 125), a.eval (.tmp 126)] = _; rw [h125, h126]) ((RPath_any _ _ _ _ _ _ VS LS OF OT ND W (HRd.out.rd.below (ext_below hE)) (HLd.out.rd.below (ext_below hE)) Hvg.out).mono (by rintro e W' ⟨⟨A', c', L, k, x, rfl, hr, hk⟩, hb⟩; exact ⟨_, rfl, hb, ⟨A', c', L, k, x, rfl, hr, hk⟩, trivial⟩))
            · intro a W hE hb hs
              have h124 : ∃ (A : Option Addr) (c : Nat), (a.eval (.tmp 124)) = .agg (rsV A (pathC VS LS ND OF OT).1.length c (pathC VS LS ND OF OT).2.1 (pathC VS LS ND OF OT).2.2).toArray ∧ TRd W 3 1 A (pathC VS LS ND OF OT).1.length ((castL (pathC VS LS ND OF OT).1).map intV) ∧ PathOk VS LS ND OF OT := hs 2 (by decide)
              have h127 : ∃ (A : Option Addr) (c : Nat) (L : List Nat) (k x : Int), (a.eval (.tmp 127)) = .agg (rsV A L.length c k x).toArray ∧ TRd W 3 1 A L.length ((castL L).map intV) ∧ (PathOk VS LS ND OF OT → (L, k, x) = pathC VS LS ND OF OT) := hs 5 (by decide)
              refine flow0 rfl ?_
              obtain ⟨A1, c1, e1, r1, k1⟩ := h124
              obtain ⟨A2, c2, L, k, x, e2, r2, k2⟩ := h127
              have k3 := k2 k1
              rw [← k3] at e1 r1
              exact val_call 17 _ _ rfl (by kernel_rfl) [_, _] (by show [a.eval (.tmp 124), a.eval (.tmp 127)] = _; rw [e1, e2]) ((Same_any A1 A2 _ _ c1 c2 (castL L) (castL L) k k x x W r1.rd r2.rd).mono (by rintro e W' ⟨rfl, hb⟩; rw [decide_eq_true ⟨rfl, rfl, rfl⟩]; exact ⟨_, rfl, hb, rfl, trivial⟩))
            · intro a W hE hb hs
              have h128 : a.eval (.tmp 128) = .bool true := hs 6 (by decide)
              refine flow0 rfl ?_
              exact val_move _ rfl _ h128 ⟨rfl, trivial⟩
            · intro a W hE hb hs
              have h129 : a.eval (.tmp 129) = .bool true := hs 7 (by decide)
              have h9 : a.eval (.tmp 9) = .pointer (some ⟨BF, 0, none⟩) := hb 9 (by decide)
              refine flowY rfl rfl h129 ?_
              exact val_load_row 28 _ rfl BF 0 h9 (ndV ND) d28 (Blk.range (HF.out.below (ext_below hE) HF.out.lt)) hd28 hrow28 (by rw [ndV_len]; kernel_rfl) ⟨rfl, trivial⟩
            · intro a W hE hb hs
              have h129 : a.eval (.tmp 129) = .bool true := hs 7 (by decide)
              have h5 : a.eval (.tmp 5) = .pointer (some ⟨w.heap.size + 1 + 1, 0, none⟩) := hb 5 (by decide)
              refine flowY rfl rfl h129 ?_
              exact val_load_row 28 _ rfl (w.heap.size + 1 + 1) 0 h5 (ndV MO) d28 (Blk.range (HX1.out.below (ext_below hE) HX1.out.lt)) hd28 hrow28 (by rw [ndV_len]; kernel_rfl) ⟨rfl, trivial⟩
            · intro a W hE hb hs
              have h129 : a.eval (.tmp 129) = .bool true := hs 7 (by decide)
              have h130 : a.eval (.tmp 130) = .agg (ndV ND).toArray := hs 8 (by decide)
              have h131 : a.eval (.tmp 131) = .agg (ndV MO).toArray := hs 9 (by decide)
              refine flowY rfl rfl h129 ?_
              exact val_call 20 _ _ rfl (by kernel_rfl) [.agg (ndV ND).toArray, .agg (ndV MO).toArray] (by show [a.eval (.tmp 130), a.eval (.tmp 131)] = _; rw [h130, h131]) ((Fits_any ND MO W).mono (by rintro e W' ⟨rfl, hb⟩; exact ⟨_, rfl, hb, rfl, trivial⟩))
            · intro a W hE hb hs
              have h129 : a.eval (.tmp 129) = .bool true := hs 7 (by decide)
              have h9 : a.eval (.tmp 9) = .pointer (some ⟨BF, 0, none⟩) := hb 9 (by decide)
              refine flowY rfl rfl h129 ?_
              exact val_load_row 28 _ rfl BF 0 h9 (ndV ND) d28 (Blk.range (HF.out.below (ext_below hE) HF.out.lt)) hd28 hrow28 (by rw [ndV_len]; kernel_rfl) ⟨rfl, trivial⟩
            · intro a W hE hb hs
              have h129 : a.eval (.tmp 129) = .bool true := hs 7 (by decide)
              have h5 : a.eval (.tmp 5) = .pointer (some ⟨w.heap.size + 1 + 1, 0, none⟩) := hb 5 (by decide)
              refine flowY rfl rfl h129 ?_
              exact val_load_row 28 _ rfl (w.heap.size + 1 + 1) 0 h5 (ndV MO) d28 (Blk.range (HX1.out.below (ext_below hE) HX1.out.lt)) hd28 hrow28 (by rw [ndV_len]; kernel_rfl) ⟨rfl, trivial⟩
            · intro a W hE hb hs
              have h129 : a.eval (.tmp 129) = .bool true := hs 7 (by decide)
              have h133 : a.eval (.tmp 133) = .agg (ndV ND).toArray := hs 11 (by decide)
              have h134 : a.eval (.tmp 134) = .agg (ndV MO).toArray := hs 12 (by decide)
              refine flowY rfl rfl h129 ?_
              exact val_call 21 _ _ rfl (by kernel_rfl) [.agg (ndV ND).toArray, .agg (ndV MO).toArray] (by show [a.eval (.tmp 133), a.eval (.tmp 134)] = _; rw [h133, h134]) ((RFits_any ND MO W).mono (by rintro e W' ⟨rfl, hb⟩; exact ⟨_, rfl, hb, rfl, trivial⟩))
            · intro a W hE hb hs
              have h129 : a.eval (.tmp 129) = .bool true := hs 7 (by decide)
              have h132 : a.eval (.tmp 132) = .bool (fitsB ND MO) := hs 10 (by decide)
              have h135 : a.eval (.tmp 135) = .bool (fitsB ND MO) := hs 13 (by decide)
              refine flowY rfl rfl h129 ?_
              intro K hK
              unfold Oper.wp execOp
              simp only [h132, h135]
              simp [go_sem]
              exact hK _ _ ⟨Below.refl _ _, rfl, trivial⟩
            · intro a W hE hb hs
              have h129 : a.eval (.tmp 129) = .bool true := hs 7 (by decide)
              have h136 : a.eval (.tmp 136) = .bool true := hs 14 (by decide)
              refine flow0 rfl ?_
              exact val_pick _ _ _ rfl true h129 _ (by rw [if_pos rfl]; exact h136) ⟨rfl, trivial⟩
            · intro a W hE hb hs
              have h137 : a.eval (.tmp 137) = .bool true := hs 15 (by decide)
              refine flow0 rfl ?_
              exact val_move _ rfl _ h137 ⟨rfl, trivial⟩
            · intro a W hE hb hs
              have h138 : a.eval (.tmp 138) = .bool true := hs 16 (by decide)
              have h5 : a.eval (.tmp 5) = .pointer (some ⟨w.heap.size + 1 + 1, 0, none⟩) := hb 5 (by decide)
              refine flowY rfl rfl h138 ?_
              exact val_load_row 28 _ rfl (w.heap.size + 1 + 1) 0 h5 (ndV MO) d28 (Blk.range (HX1.out.below (ext_below hE) HX1.out.lt)) hd28 hrow28 (by rw [ndV_len]; kernel_rfl) ⟨rfl, trivial⟩
            · intro a W hE hb hs
              have h138 : a.eval (.tmp 138) = .bool true := hs 16 (by decide)
              have h9 : a.eval (.tmp 9) = .pointer (some ⟨BF, 0, none⟩) := hb 9 (by decide)
              refine flowY rfl rfl h138 ?_
              exact val_load_row 28 _ rfl BF 0 h9 (ndV ND) d28 (Blk.range (HF.out.below (ext_below hE) HF.out.lt)) hd28 hrow28 (by rw [ndV_len]; kernel_rfl) ⟨rfl, trivial⟩
            · intro a W hE hb hs
              have h138 : a.eval (.tmp 138) = .bool true := hs 16 (by decide)
              have h139 : a.eval (.tmp 139) = .agg (ndV MO).toArray := hs 17 (by decide)
              have h140 : a.eval (.tmp 140) = .agg (ndV ND).toArray := hs 18 (by decide)
              refine flowY rfl rfl h138 ?_
              exact val_call 20 _ _ rfl (by kernel_rfl) [.agg (ndV MO).toArray, .agg (ndV ND).toArray] (by show [a.eval (.tmp 139), a.eval (.tmp 140)] = _; rw [h139, h140]) ((Fits_any MO ND W).mono (by rintro e W' ⟨rfl, hb⟩; exact ⟨_, rfl, hb, rfl, trivial⟩))
            · intro a W hE hb hs
              have h138 : a.eval (.tmp 138) = .bool true := hs 16 (by decide)
              have h5 : a.eval (.tmp 5) = .pointer (some ⟨w.heap.size + 1 + 1, 0, none⟩) := hb 5 (by decide)
              refine flowY rfl rfl h138 ?_
              exact val_load_row 28 _ rfl (w.heap.size + 1 + 1) 0 h5 (ndV MO) d28 (Blk.range (HX1.out.below (ext_below hE) HX1.out.lt)) hd28 hrow28 (by rw [ndV_len]; kernel_rfl) ⟨rfl, trivial⟩
            · intro a W hE hb hs
              have h138 : a.eval (.tmp 138) = .bool true := hs 16 (by decide)
              have h9 : a.eval (.tmp 9) = .pointer (some ⟨BF, 0, none⟩) := hb 9 (by decide)
              refine flowY rfl rfl h138 ?_
              exact val_load_row 28 _ rfl BF 0 h9 (ndV ND) d28 (Blk.range (HF.out.below (ext_below hE) HF.out.lt)) hd28 hrow28 (by rw [ndV_len]; kernel_rfl) ⟨rfl, trivial⟩
            · intro a W hE hb hs
              have h138 : a.eval (.tmp 138) = .bool true := hs 16 (by decide)
              have h142 : a.eval (.tmp 142) = .agg (ndV MO).toArray := hs 20 (by decide)
              have h143 : a.eval (.tmp 143) = .agg (ndV ND).toArray := hs 21 (by decide)
              refine flowY rfl rfl h138 ?_
              exact val_call 21 _ _ rfl (by kernel_rfl) [.agg (ndV MO).toArray, .agg (ndV ND).toArray] (by show [a.eval (.tmp 142), a.eval (.tmp 143)] = _; rw [h142, h143]) ((RFits_any MO ND W).mono (by rintro e W' ⟨rfl, hb⟩; exact ⟨_, rfl, hb, rfl, trivial⟩))
            · intro a W hE hb hs
              have h138 : a.eval (.tmp 138) = .bool true := hs 16 (by decide)
              have h141 : a.eval (.tmp 141) = .bool (fitsB MO ND) := hs 19 (by decide)
              have h144 : a.eval (.tmp 144) = .bool (fitsB MO ND) := hs 22 (by decide)
              refine flowY rfl rfl h138 ?_
              intro K hK
              unfold Oper.wp execOp
              simp only [h141, h144]
              simp [go_sem]
              exact hK _ _ ⟨Below.refl _ _, rfl, trivial⟩
            · intro a W hE hb hs
              have h138 : a.eval (.tmp 138) = .bool true := hs 16 (by decide)
              have h145 : a.eval (.tmp 145) = .bool true := hs 23 (by decide)
              refine flow0 rfl ?_
              exact val_pick _ _ _ rfl true h138 _ (by rw [if_pos rfl]; exact h145) ⟨rfl, trivial⟩
            · intro a W hE hb hs
              have h146 : a.eval (.tmp 146) = .bool true := hs 24 (by decide)
              refine flow0 rfl ?_
              exact val_move _ rfl _ h146 ⟨rfl, trivial⟩
            · intro a W hE hb hs
              have h147 : a.eval (.tmp 147) = .bool true := hs 25 (by decide)
              have h7 : a.eval (.tmp 7) = .bool true := hb 7 (by decide)
              refine flowY rfl rfl h147 ?_
              exact val_move _ rfl _ h7 ⟨rfl, trivial⟩
            · intro a W hE hb hs
              have h147 : a.eval (.tmp 147) = .bool true := hs 25 (by decide)
              have h148 : a.eval (.tmp 148) = .bool true := hs 26 (by decide)
              refine flow0 rfl ?_
              exact val_pick _ _ _ rfl true h147 _ (by rw [if_pos rfl]; exact h148) ⟨rfl, trivial⟩
            · intro a W hE hb hs
              have h149 : a.eval (.tmp 149) = .bool true := hs 27 (by decide)
              refine flow0 rfl ?_
              exact val_assign _ rfl _ h149 ⟨rfl, trivial⟩
          · intro f W hbW hT hp hd
            have hres : f 6 = .bool true := hT 28 (by decide)
            simp only [putV, List.foldl_cons, List.foldl_nil, Act.put, List.setIfInBounds_toArray, List.set_cons_succ, List.set_cons_zero, Exit.then]
            rw [hres]
            have Hend := Lib.hid hbW
            clear hT hp hd hres hbW
            go_wp2_with fail
            go_meet
            exact ⟨rfl, Hend.out⟩
        case' rest => skip
        obtain ⟨rfl, hbn⟩ := hcut
        have HBz := Lib.hid (HB.out.trans (hbn.mono HB.out.size))
        clear hbn
        go_wp2_with fail
        go_ret
        exact ⟨rfl, HBz.out⟩
      have d0 : decide ((i : Int) < (N : Int)) = true := decide_eq_true (by omega)
      obtain ⟨wo, hwo⟩ : ∃ wo, wo = wr := ⟨_, rfl⟩
      subst hwo
      go_wp2_with fail
      clear d0 g0
      go_loopw [12] (fun v12 wr => ∃ k : Nat, v12 = .int .i64 (k : Int) ∧ k ≤ N ∧ Below v7.heap.size v7 wr) (fun v12 _ => N - (intOf v12).toNat)
      case atStart => exact ⟨0, rfl, by omega, HBr.out⟩
      case round =>
        clear HBr
        obtain ⟨k, rfl, hkN, hBr⟩ := hrel
        have HBr := Lib.hid hBr
        have g0 : wr.cell? ⟨BG, 0, none⟩ = some (.slice GA N gc) := by rw [(HG.out.below hBr HG.out.lt).cell]; rfl
        clear hBr
        by_cases lk : k < N
        rotate_left
        · have d1 : decide ((k : Int) < (N : Int)) = false := decide_eq_false (by omega)
          have d2 : decide (k < N) = false := decide_eq_false lk
          clear lk
          go_wp2_with fail
          exact ⟨⟨i + 1, by go_num, by omega, HBr.out⟩, by simp [intOf]; omega⟩
        have d1 : decide ((k : Int) < (N : Int)) = true := decide_eq_true (by omega)
        go_upto_region 15 with fail
        clear d1 g0
        have hbx := HBr.out
        replace HG := Lib.hid (HG.out.below hbx HG.out.lt)
        replace HF := Lib.hid (HF.out.below hbx HF.out.lt)
        replace HX1 := Lib.hid (HX1.out.below hbx HX1.out.lt)
        replace HRd := Lib.hid (HRd.out.below hbx)
        replace HLd := Lib.hid (HLd.out.below hbx)
        replace HB := Lib.hid (HB.out.trans (hbx.mono HB.out.size))
        clear hbx
        obtain ⟨vb, vo, vi, ea, hvi, cvi0⟩ := HRd.out.rd.at_ li
        subst ea
        obtain ⟨_, _, vk, ea, hvk, cvk0⟩ := HRd.out.rd.at_ lk
        cases ea
        have cvi : wr.cell? ⟨vb, vo + i, none⟩ = some (.int .i64 vi) := cvi0
        have cvk : wr.cell? ⟨vb, vo + k, none⟩ = some (.int .i64 vk) := cvk0
        clear cvi0 cvk0 hvi hvk
        go_cut [13, 14] from 70 to 93 (fun t13 t14 wx => ∃ B13 B14 : Nat, t13 = .pointer (some ⟨B13, 0, none⟩) ∧ t14 = .pointer (some ⟨B14, 0, none⟩) ∧ Blk wx B13 40 (asV vi vk MO).toArray ∧ Blk wx B14 40 (asV vi vk ND).toArray ∧ Below wr.heap.size wr wx)
        case first =>
          have g1 : wr.cell? ⟨BG, 0, none⟩ = some (.slice (some ⟨vb, vo, none⟩) N gc) := by rw [HG.out.cell]; rfl
          have g1r := cell_regrown g1
          have cvir := cell_regrown cvi
          have cvkr := cell_regrown cvk
          have hrm : ∀ w', Ext wr w' → w'.rangeAt (w.heap.size + 1 + 1) 0 (ndV MO) := fun w' hw' => Blk.range (HX1.out.below (ext_below hw') HX1.out.lt)
          have hrn : ∀ w', Ext wr w' → w'.rangeAt BF 0 (ndV ND) := fun w' hw' => Blk.range (HF.out.below (ext_below hw') HF.out.lt)
          have Hrm := Lib.hid hrm
          have Hrn := Lib.hid hrn
          have l1 : decide ((i : Int) < (N : Int)) = true := decide_eq_true (by omega)
          have l2 : decide ((k : Int) < (N : Int)) = true := decide_eq_true (by omega)
          clear hrm hrn g1 cvi cvk
          refine wp_region_web [0, 1, 2, 3, 4, 5, 6, 7, 8, 9, 10, 11, 12, 13, 14, 15, 16, 17, 18, 19, 20, 21, 22, 23] 4 (by kernel_rfl) (by kernel_rfl) (fun _ _ d _ _ h => by cases d <;> exact h) (by kernel_rfl) (by kernel_rfl) rfl ?_
          simp only [pickOps, List.getElem?_cons_zero, List.getElem?_cons_succ]
          repeat (first | (refine wpQuiet_buildN_g (by first | rfl | simp [Region.wanted, yielded]) 40 _ rfl [(0, .int .i64 vi), (1, .int .i64 vk), (2, .agg (ndV MO).toArray)] rfl _ (built40 _ _ _) ?_; simp only [Act.put, List.setIfInBounds_toArray, List.set_cons_succ, List.set_cons_zero]) | (refine wpQuiet_buildN_g (by first | rfl | simp [Region.wanted, yielded]) 40 _ rfl [(0, .int .i64 vi), (1, .int .i64 vk), (2, .agg (ndV ND).toArray)] rfl _ (built40 _ _ _) ?_; simp only [Act.put, List.setIfInBounds_toArray, List.set_cons_succ, List.set_cons_zero]) | (refine wpQuiet_load_mid_g (by first | rfl | simp [Region.wanted, yielded]) 28 (.tmp 5) rfl (w.heap.size + 1 + 1) 0 rfl (ndV MO) _ Hrm.out hd28 hrow28 (by rw [ndV_len]; kernel_rfl) ?_; simp only [Act.put, List.setIfInBounds_toArray, List.set_cons_succ, List.set_cons_zero]) | (refine wpQuiet_load_mid_g (by first | rfl | simp [Region.wanted, yielded]) 28 (.tmp 9) rfl BF 0 rfl (ndV ND) _ Hrn.out hd28 hrow28 (by rw [ndV_len]; kernel_rfl) ?_; simp only [Act.put, List.setIfInBounds_toArray, List.set_cons_succ, List.set_cons_zero]) | go_big_quiet_step (fail))
          refine wpQuiet_nil ?_
          refine two_vars (ext_drew (ext_refl _)) 24 25 26 27 _ _ _ _ rfl rfl rfl rfl (by kernel_rfl) (by kernel_rfl) (by kernel_rfl) (by kernel_rfl) (by kernel_rfl) (by kernel_rfl) (by decide) 13 14 81 93 (by decide) (show 13 < 150 by decide) (show 14 < 150 by decide) (by decide) (by decide) rfl rfl rfl rfl rfl rfl rfl rfl 40 40 rfl rfl rfl rfl (asV 0 0 nd0).toArray (asV 0 0 nd0).toArray _ _ i40 i40 hi40 hi40 hz40 hz40 rfl rfl (asV vi vk MO).toArray (asV vi vk ND).toArray rfl rfl (size40 _ rfl) (size40 _ rfl) rfl rfl (as_one _ _ _) (as_one _ _ _) ?_
          intro B13 B14 W _ _ _ hbW h1 h2
          have HX := Lib.hid (And.intro h1 (And.intro h2 (((Below.refl _ wr).drew).trans hbW)))
          clear h1 h2 hbW
          simp only [Act.put, List.setIfInBounds_toArray, List.set_cons_succ, List.set_cons_zero]
          go_wp2_with fail
          go_meet
          exact ⟨B13, B14, rfl, rfl, HX.out⟩
        case' rest => skip
        obtain ⟨B13, B14, rfl, rfl, hA1, hA2, hbn⟩ := hcut
        obtain ⟨v8, h_⟩ : ∃ v, v = wc := ⟨_, rfl⟩
        subst h_
        have HA1 := Lib.hid hA1
        have HA2 := Lib.hid hA2
        replace HBr := Lib.hid (HBr.out.trans (hbn.mono HBr.out.size))
        clear hA1 hA2 cvi cvk
        replace HG := Lib.hid (HG.out.below hbn HG.out.lt)
        replace HRd := Lib.hid (HRd.out.below hbn)
        replace HLd := Lib.hid (HLd.out.below hbn)
        clear hbn
        go_upto_region 16 with fail
        go_cut [111] from 94 to 111 (fun t111 wx => t111 = .bool false ∧ Below v8.heap.size v8 wx)
        case first =>
          refine wp_region_flowF [94, 95, 96, 97, 98, 99, 100, 101, 102, 103, 104, 105, 106, 107, 108, 109, 110, 111] [(Spec.is (.agg (grV (some ⟨vb, vo, none⟩) N gc GB M gd).toArray), false), (Spec.is (.agg (asV vi vk MO).toArray), false), (spPa VS LS MO vi vk, false), (Spec.is (.agg (grV (some ⟨vb, vo, none⟩) N gc GB M gd).toArray), false), (Spec.is (.agg (asV vi vk MO).toArray), false), (spPx VS LS MO vi vk, false), (Spec.is (.bool true), false), (Spec.is (.bool false), false), (Spec.is (.bool false), false), (Spec.is (.agg (grV (some ⟨vb, vo, none⟩) N gc GB M gd).toArray), false), (Spec.is (.agg (asV vi vk ND).toArray), false), (spPa VS LS ND vi vk, false), (Spec.is (.agg (grV (some ⟨vb, vo, none⟩) N gc GB M gd).toArray), false), (Spec.is (.agg (asV vi vk ND).toArray), false), (spPx VS LS ND vi vk, false), (Spec.is (.bool true), false), (Spec.is (.bool false), false), (Spec.is (.bool false), false)] 150 (by kernel_rfl) rfl (by decide) rfl (by decide) (by kernel_rfl) ?_ ?_
          · refine ⟨?_, ?_, ?_, ?_, ?_, ?_, ?_, ?_, ?_, ?_, ?_, ?_, ?_, ?_, ?_, ?_, ?_, ?_, trivial⟩
            · intro a W hE hb hs
              have h8 : a.eval (.tmp 8) = .pointer (some ⟨BG, 0, none⟩) := hb 8 (by decide)
              refine flow0 rfl ?_
              exact val_load_row 33 _ rfl BG 0 h8 (grV (some ⟨vb, vo, none⟩) N gc GB M gd) d33 (Blk.range (HG.out.below (ext_below hE) HG.out.lt)) hd33 hrow33 (by rw [grV_len]; kernel_rfl) ⟨rfl, trivial⟩
            · intro a W hE hb hs
              have h13 : a.eval (.tmp 13) = .pointer (some ⟨B13, 0, none⟩) := hb 13 (by decide)
              refine flow0 rfl ?_
              exact val_load_row 40 _ rfl B13 0 h13 (asV vi vk MO) d40 (Blk.range (HA1.out.below (ext_below hE) HA1.out.lt)) hd40 hrow40 (by rw [asV_len]; kernel_rfl) ⟨rfl, trivial⟩
            · intro a W hE hb hs
              have h94 : a.eval (.tmp 94) = .agg (grV (some ⟨vb, vo, none⟩) N gc GB M gd).toArray := hs 0 (by decide)
              have h95 : a.eval (.tmp 95) = .agg (asV vi vk MO).toArray := hs 1 (by decide)
              refine flow0 rfl ?_
              exact val_call 18 _ _ rfl (by kernel_rfl) [.agg (grV (some ⟨vb, vo, none⟩) N gc GB M gd).toArray, .agg (asV vi vk MO).toArray] (by show [a.eval (.tmp 94), a.eval (.tmp 95)] = _; rw [h94, h95]) ((path_C _ _ _ _ _ _ VS LS vi vk MO W (HRd.out.rd.below (ext_below hE)) (HLd.out.rd.below (ext_below hE)) Hvg.out).mono (by rintro e W' ⟨⟨A', c', rfl, hr, hp⟩, hb⟩; exact ⟨_, rfl, hb, ⟨A', c', rfl, hr, hp⟩, trivial⟩))
            · intro a W hE hb hs
              have h8 : a.eval (.tmp 8) = .pointer (some ⟨BG, 0, none⟩) := hb 8 (by decide)
              refine flow0 rfl ?_
              exact val_load_row 33 _ rfl BG 0 h8 (grV (some ⟨vb, vo, none⟩) N gc GB M gd) d33 (Blk.range (HG.out.below (ext_below hE) HG.out.lt)) hd33 hrow33 (by rw [grV_len]; kernel_rfl) ⟨rfl, trivial⟩
            · intro a W hE hb hs
              have h13 : a.eval (.tmp 13) = .pointer (some ⟨B13, 0, none⟩) := hb 13 (by decide)
              refine flow0 rfl ?_
              exact val_load_row 40 _ rfl B13 0 h13 (asV vi vk MO) d40 (Blk.range (HA1.out.below (ext_below hE) HA1.out.lt)) hd40 hrow40 (by rw [asV_len]; kernel_rfl) ⟨rfl, trivial⟩
            · intro a W hE hb hs
              have h97 : a.eval (.tmp 97) = .agg (grV (some ⟨vb, vo, none⟩) N gc GB M gd).toArray := hs 3 (by decide)
              have h98 : a.eval (.tmp 98) = .agg (asV vi vk MO).toArray := hs 4 (by decide)
              refine flow0 rfl ?_
              exact val_call 19 _ _ rfl (by kernel_rfl) [.agg (grV (some ⟨vb, vo, none⟩) N gc GB M gd).toArray, .agg (asV vi vk MO).toArray] (by show [a.eval (.tmp 97), a.eval (.tmp 98)] = _; rw [h97, h98]) ((RPath_any _ _ _ _ _ _ VS LS vi vk MO W (HRd.out.rd.below (ext_below hE)) (HLd.out.rd.below (ext_below hE)) Hvg.out).mono (by rintro e W' ⟨⟨A', c', L, k, x, rfl, hr, hk⟩, hb⟩; exact ⟨_, rfl, hb, ⟨A', c', L, k, x, rfl, hr, hk⟩, trivial⟩))
            · intro a W hE hb hs
              have h96 : ∃ (A : Option Addr) (c : Nat), (a.eval (.tmp 96)) = .agg (rsV A (pathC VS LS MO vi vk).1.length c (pathC VS LS MO vi vk).2.1 (pathC VS LS MO vi vk).2.2).toArray ∧ TRd W 3 1 A (pathC VS LS MO vi vk).1.length ((castL (pathC VS LS MO vi vk).1).map intV) ∧ PathOk VS LS MO vi vk := hs 2 (by decide)
              have h99 : ∃ (A : Option Addr) (c : Nat) (L : List Nat) (k x : Int), (a.eval (.tmp 99)) = .agg (rsV A L.length c k x).toArray ∧ TRd W 3 1 A L.length ((castL L).map intV) ∧ (PathOk VS LS MO vi vk → (L, k, x) = pathC VS LS MO vi vk) := hs 5 (by decide)
              refine flow0 rfl ?_
              obtain ⟨A1, c1, e1, r1, k1⟩ := h96
              obtain ⟨A2, c2, L, k, x, e2, r2, k2⟩ := h99
              have k3 := k2 k1
              rw [← k3] at e1 r1
              exact val_call 17 _ _ rfl (by kernel_rfl) [_, _] (by show [a.eval (.tmp 96), a.eval (.tmp 99)] = _; rw [e1, e2]) ((Same_any A1 A2 _ _ c1 c2 (castL L) (castL L) k k x x W r1.rd r2.rd).mono (by rintro e W' ⟨rfl, hb⟩; rw [decide_eq_true ⟨rfl, rfl, rfl⟩]; exact ⟨_, rfl, hb, rfl, trivial⟩))
            · intro a W hE hb hs
              have h100 : a.eval (.tmp 100) = .bool true := hs 6 (by decide)
              refine flow0 rfl ?_
              exact val_not _ _ rfl _ h100 ⟨rfl, trivial⟩
            · intro a W hE hb hs
              have h101 : a.eval (.tmp 101) = .bool false := hs 7 (by decide)
              refine flow0 rfl ?_
              exact val_move _ rfl _ h101 ⟨rfl, trivial⟩
            · intro a W hE hb hs
              have h102 : a.eval (.tmp 102) = .bool false := hs 8 (by decide)
              have h8 : a.eval (.tmp 8) = .pointer (some ⟨BG, 0, none⟩) := hb 8 (by decide)
              refine flowY rfl rfl h102 ?_
              exact val_load_row 33 _ rfl BG 0 h8 (grV (some ⟨vb, vo, none⟩) N gc GB M gd) d33 (Blk.range (HG.out.below (ext_below hE) HG.out.lt)) hd33 hrow33 (by rw [grV_len]; kernel_rfl) ⟨rfl, trivial⟩
            · intro a W hE hb hs
              have h102 : a.eval (.tmp 102) = .bool false := hs 8 (by decide)
              have h14 : a.eval (.tmp 14) = .pointer (some ⟨B14, 0, none⟩) := hb 14 (by decide)
              refine flowY rfl rfl h102 ?_
              exact val_load_row 40 _ rfl B14 0 h14 (asV vi vk ND) d40 (Blk.range (HA2.out.below (ext_below hE) HA2.out.lt)) hd40 hrow40 (by rw [asV_len]; kernel_rfl) ⟨rfl, trivial⟩
            · intro a W hE hb hs
              have h102 : a.eval (.tmp 102) = .bool false := hs 8 (by decide)
              have h103 : a.eval (.tmp 103) = .agg (grV (some ⟨vb, vo, none⟩) N gc GB M gd).toArray := hs 9 (by decide)
              have h104 : a.eval (.tmp 104) = .agg (asV vi vk ND).toArray := hs 10 (by decide)
              refine flowY rfl rfl h102 ?_
              exact val_call 18 _ _ rfl (by kernel_rfl) [.agg (grV (some ⟨vb, vo, none⟩) N gc GB M gd).toArray, .agg (asV vi vk ND).toArray] (by show [a.eval (.tmp 103), a.eval (.tmp 104)] = _; rw [h103, h104]) ((path_C _ _ _ _ _ _ VS LS vi vk ND W (HRd.out.rd.below (ext_below hE)) (HLd.out.rd.below (ext_below hE)) Hvg.out).mono (by rintro e W' ⟨⟨A', c', rfl, hr, hp⟩, hb⟩; exact ⟨_, rfl, hb, ⟨A', c', rfl, hr, hp⟩, trivial⟩))
            · intro a W hE hb hs
              have h102 : a.eval (.tmp 102) = .bool false := hs 8 (by decide)
              have h8 : a.eval (.tmp 8) = .pointer (some ⟨BG, 0, none⟩) := hb 8 (by decide)
              refine flowY rfl rfl h102 ?_
              exact val_load_row 33 _ rfl BG 0 h8 (grV (some ⟨vb, vo, none⟩) N gc GB M gd) d33 (Blk.range (HG.out.below (ext_below hE) HG.out.lt)) hd33 hrow33 (by rw [grV_len]; kernel_rfl) ⟨rfl, trivial⟩
            · intro a W hE hb hs
              have h102 : a.eval (.tmp 102) = .bool false := hs 8 (by decide)
              have h14 : a.eval (.tmp 14) = .pointer (some ⟨B14, 0, none⟩) := hb 14 (by decide)
              refine flowY rfl rfl h102 ?_
              exact val_load_row 40 _ rfl B14 0 h14 (asV vi vk ND) d40 (Blk.range (HA2.out.below (ext_below hE) HA2.out.lt)) hd40 hrow40 (by rw [asV_len]; kernel_rfl) ⟨rfl, trivial⟩
            · intro a W hE hb hs
              have h102 : a.eval (.tmp 102) = .bool false := hs 8 (by decide)
              have h106 : a.eval (.tmp 106) = .agg (grV (some ⟨vb, vo, none⟩) N gc GB M gd).toArray := hs 12 (by decide)
              have h107 : a.eval (.tmp 107) = .agg (asV vi vk ND).toArray := hs 13 (by decide)
              refine flowY rfl rfl h102 ?_
              exact val_call 19 _ _ rfl (by kernel_rfl) [.agg (grV (some ⟨vb, vo, none⟩) N gc GB M gd).toArray, .agg (asV vi vk ND).toArray] (by show [a.eval (.tmp 106), a.eval (.tmp 107)] = _; rw [h106, h107]) ((RPath_any _ _ _ _ _ _ VS LS vi vk ND W (HRd.out.rd.below (ext_below hE)) (HLd.out.rd.below (ext_below hE)) Hvg.out).mono (by rintro e W' ⟨⟨A', c', L, k, x, rfl, hr, hk⟩, hb⟩; exact ⟨_, rfl, hb, ⟨A', c', L, k, x, rfl, hr, hk⟩, trivial⟩))
            · intro a W hE hb hs
              have h102 : a.eval (.tmp 102) = .bool false := hs 8 (by decide)
              have h105 : ∃ (A : Option Addr) (c : Nat), (a.eval (.tmp 105)) = .agg (rsV A (pathC VS LS ND vi vk).1.length c (pathC VS LS ND vi vk).2.1 (pathC VS LS ND vi vk).2.2).toArray ∧ TRd W 3 1 A (pathC VS LS ND vi vk).1.length ((castL (pathC VS LS ND vi vk).1).map intV) ∧ PathOk VS LS ND vi vk := hs 11 (by decide)
              have h108 : ∃ (A : Option Addr) (c : Nat) (L : List Nat) (k x : Int), (a.eval (.tmp 108)) = .agg (rsV A L.length c k x).toArray ∧ TRd W 3 1 A L.length ((castL L).map intV) ∧ (PathOk VS LS ND vi vk → (L, k, x) = pathC VS LS ND vi vk) := hs 14 (by decide)
              refine flowY rfl rfl h102 ?_
              obtain ⟨A1, c1, e1, r1, k1⟩ := h105
              obtain ⟨A2, c2, L, k, x, e2, r2, k2⟩ := h108
              have k3 := k2 k1
              rw [← k3] at e1 r1
              exact val_call 17 _ _ rfl (by kernel_rfl) [_, _] (by show [a.eval (.tmp 105), a.eval (.tmp 108)] = _; rw [e1, e2]) ((Same_any A1 A2 _ _ c1 c2 (castL L) (castL L) k k x x W r1.rd r2.rd).mono (by rintro e W' ⟨rfl, hb⟩; rw [decide_eq_true ⟨rfl, rfl, rfl⟩]; exact ⟨_, rfl, hb, rfl, trivial⟩))
            · intro a W hE hb hs
              have h102 : a.eval (.tmp 102) = .bool false := hs 8 (by decide)
              have h109 : a.eval (.tmp 109) = .bool true := hs 15 (by decide)
              refine flowY rfl rfl h102 ?_
              exact val_not _ _ rfl _ h109 ⟨rfl, trivial⟩
            · intro a W hE hb hs
              have h102 : a.eval (.tmp 102) = .bool false := hs 8 (by decide)
              have h110 : a.eval (.tmp 110) = .bool false := hs 16 (by decide)
              refine flow0 rfl ?_
              exact val_pick _ _ _ rfl false h102 _ (by rw [if_neg (by decide)]; exact h110) ⟨rfl, trivial⟩
          · intro f W hbW hT hp hd
            have hres : f 111 = .bool false := hT 17 (by decide)
            simp only [putV, List.foldl_cons, List.foldl_nil, Act.put, List.setIfInBounds_toArray, List.set_cons_succ, List.set_cons_zero, Exit.then]
            rw [hres]
            have Hend := Lib.hid hbW
            clear hT hp hd hres hbW
            go_wp2_with fail
            go_meet
            exact ⟨rfl, Hend.out⟩
        case' rest => skip
        obtain ⟨rfl, hbn⟩ := hcut
        have HBz := Lib.hid (HBr.out.trans (hbn.mono HBr.out.size))
        clear hbn
        go_wp2_with fail
        exact ⟨⟨k + 1, by go_num, by omega, HBz.out⟩, by simp [intOf]; omega⟩
end Go.Proofs.Ytgelchbbknckcaa
