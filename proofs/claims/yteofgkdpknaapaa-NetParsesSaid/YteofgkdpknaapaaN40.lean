/- NetParses: the walk. -/
import Derived.Test.YteofgkdpknaapaaN39
namespace Go.Proofs.Yteofgkdpknaapaa
open Go.RowKit Go.Sort

set_option maxRecDepth 100000 in
set_option maxHeartbeats 1000000 in
theorem NetParses_any (a b c : UInt8) (A : Option Addr) (len cap : Nat) (bs : List UInt8) (w : World) (hr : Rd w 1 A len (bs.map byteV)) (hlc : len ≤ cap) :
    Calls Try.prog 5 #[.agg #[byteV a, byteV b, byteV c], .slice A len cap] w fun e w' => e = .returned (.bool true) ∧ Below w.heap.size w w' := by
  obtain ⟨i39, hi39, hz39, hs39, hy39⟩ := info_parts info39
  obtain ⟨i30, hi30, hz30, _, _⟩ := info_parts info30
  obtain ⟨i0, hi0, hz0, hz1, hz2⟩ := info_parts info5
  obtain ⟨d39, hd39, hrow39⟩ := und39
  obtain ⟨d30, hd30, hrow30⟩ := und30
  unfold byteV
  obtain ⟨w1, hw1⟩ : ∃ q, q = w.alloc (.cells #[.int .u8 (a.toNat : Int), .int .u8 (b.toNat : Int), .int .u8 (c.toNat : Int)] 62) := ⟨_, rfl⟩
  have hb1 : Below w.heap.size w w1 := by rw [hw1]; exact (Below.refl _ _).alloc (Nat.le_refl _) _
  have HW := Lib.hid (show Blk w1 w.heap.size 62 #[.int .u8 (a.toNat : Int), .int .u8 (b.toNat : Int), .int .u8 (c.toNat : Int)] by rw [hw1]; exact Blk.new _ _ _)
  have HW1 := Lib.hid hw1
  have HB := Lib.hid hb1
  have Hr := Lib.hid (hr.below hb1)
  clear hw1 hb1 hr
  go_enter Try.func5, Try.ntmps5
  go_upto_region 1 with fail
  rw [← HW1.out]
  go_upto_region 2 with fail
  refine (sanity_any w1).mono ?_
  rintro e v1 ⟨rfl, hb_⟩
  replace HB := Lib.hid (HB.out.trans (hb_.mono HB.out.size))
  replace HW := Lib.hid (HW.out.below hb_ HW.out.lt)
  replace Hr := Lib.hid (Hr.out.below hb_)
  clear hb_
  have c0 : v1.cell? ⟨w.heap.size, 0, none⟩ = some (.int .u8 (a.toNat : Int)) := (HW.out.cell 0).trans rfl
  have c1 : v1.cell? ⟨w.heap.size, 1, none⟩ = some (.int .u8 (b.toNat : Int)) := (HW.out.cell 1).trans rfl
  have c2 : v1.cell? ⟨w.heap.size, 2, none⟩ = some (.int .u8 (c.toNat : Int)) := (HW.out.cell 2).trans rfl
  obtain ⟨a6, ha6⟩ : ∃ q : UInt8, q = UInt8.ofNat (a.toNat % 6) := ⟨_, rfl⟩
  obtain ⟨b9, hb9⟩ : ∃ q : UInt8, q = UInt8.ofNat (b.toNat % 9) := ⟨_, rfl⟩
  have hm6 : (a.toNat : Int) % 6 = (a6.toNat : Int) := by rw [ha6, UInt8.toNat_ofNat']; omega
  have hm6t : (a.toNat : Int).tmod 6 = (a6.toNat : Int) := by rw [Int.tmod_eq_emod_of_nonneg (by omega)]; exact hm6
  have hm9 : (b.toNat : Int) % 9 = (b9.toNat : Int) := by rw [hb9, UInt8.toNat_ofNat']; omega
  have hm9t : (b.toNat : Int).tmod 9 = (b9.toNat : Int) := by rw [Int.tmod_eq_emod_of_nonneg (by omega)]; exact hm9
  clear ha6 hb9
  obtain ⟨wx, hwx⟩ : ∃ q, q = v1.alloc (.cells #[.int .u8 (a6.toNat : Int), .int .u8 (b9.toNat : Int), .int .u8 (c.toNat : Int)] 5) := ⟨_, rfl⟩
  have hbx : Below v1.heap.size v1 wx := by rw [hwx]; exact (Below.refl _ _).alloc (Nat.le_refl _) _
  obtain ⟨bM, hbM⟩ : ∃ q, q = v1.heap.size := ⟨_, rfl⟩
  have HAx := Lib.hid (show AppZ wx bM 5 1 (.slice (some ⟨bM, 0, none⟩) 3 3) 3 ([a6, b9, c].map byteV) by rw [hwx, hbM]; exact .inr (World.ownsRow_lit v1 #[byteV a6, byteV b9, byteV c] 3 (Nat.le_refl _) (by unfold maxLen; omega) rfl))
  have hsM : bM ≤ wx.heap.size := by have := hbx.size; omega
  have HWX := Lib.hid hwx
  have HzM := Lib.hid hbM
  have Hbx := Lib.hid hbx
  have Hrx := Lib.hid (Hr.out.below hbx)
  clear hwx hbM hbx
  go_upto_region 3 with fail
  rw [← HWX.out, ← HzM.out]
  clear HWX c0 c1 c2 hm6 hm6t hm9 hm9t
  go_upto_region 4 with fail
  refine (Limited_any A len cap 100 bs wx Hrx.out hlc (by omega)).mono ?_
  rintro e vx ⟨⟨L, rfl, hl1, hl2, hr'⟩, hw'⟩
  subst hw'
  obtain ⟨B, hB⟩ : ∃ q, q = bs.take 100 := ⟨_, rfl⟩
  rw [← hB] at hr'
  have Hrb := Lib.hid hr'
  clear hr' hB
  go_upto_region 4 with (at_builtin; refine wpList_appz rfl (.tmp 19) (.tmp 21) 26 rfl 5 i0 (.int .u8 0) 1 1 Try.underlying26 hi0 hz0 hz1 hz2 rfl (by omega) bM hsM _ 3 ([a6, b9, c].map byteV) rfl HAx.out A L cap (B.map byteV) rfl Hrb.out (oneB _) (by unfold maxLen; omega) (by omega) ?_; intro v_ wz ha_ hg_; rw [← List.map_append] at ha_; have hb_ := (Below.refl bM _).grown hg_ hsM (fun g e => (HAx.out.lt g e).1); obtain ⟨A6, c6, rfl, hc6, hr_⟩ := ha_.rd; have H6 := Lib.hid hr_; have Hb6 := Lib.hid (show Below v1.heap.size v1 wz from Hbx.out.trans (HzM.out ▸ hb_)); clear ha_ hr_ hb_ hg_)
  clear HW Hr
  replace HB := Lib.hid (HB.out.trans (Hb6.out.mono HB.out.size))
  clear Hb6 HAx HzM Hbx Hrx Hrb hsM
  obtain ⟨cs, hcs⟩ : ∃ q, q = [a6, b9, c] ++ B := ⟨_, rfl⟩
  rw [← hcs] at H6
  clear hcs
  obtain ⟨T, hT⟩ : ∃ q, q = ansP cs := ⟨_, rfl⟩
  have HT := Lib.hid hT
  clear hT
  go_upto_region 5 with fail
  refine (Parse0_any A6 (3 + L) c6 cs T.1 T.2 wz H6.out hc6 HT.out.symm).mono ?_
  rintro e v2 ⟨⟨pv7, rfl, hp_⟩, hb_⟩
  replace HB := Lib.hid (HB.out.trans (hb_.mono HB.out.size))
  replace H6 := Lib.hid (H6.out.below hb_)
  clear hb_
  have Hp7 := Lib.hid hp_
  clear hp_
  go_upto_region 5 with (first | (refine wpList_alloc0 rfl 39 rfl (pvC pv0).toArray _ i39 hi39 hz39 rfl ?_; simp only [Act.put, List.setIfInBounds_toArray, List.set_cons_succ, List.set_cons_zero]; try simp only [World.size_alloc]) | (refine wpList_store_row rfl 39 (.tmp 7) (.tmp 26) rfl v2.heap.size (pvC pv7).toArray rfl rfl 39 _ (Blk.new v2 _ _) (size39 _ rfl) rfl (pv_row_one _) ?_; rw [alloc_setRow]))
  obtain ⟨X7, hX7⟩ : ∃ q, q = v2.heap.size := ⟨_, rfl⟩
  obtain ⟨v3, hv3⟩ : ∃ q, q = v2.alloc (.cells (pvC pv7).toArray 39) := ⟨_, rfl⟩
  have hb_ : Below v2.heap.size v2 v3 := by rw [hv3]; exact (Below.refl _ _).alloc (Nat.le_refl _) _
  have HBX7 := Lib.hid (show Blk v3 X7 39 (pvC pv7).toArray by rw [hv3, hX7]; exact Blk.new _ _ _)
  have hlX7 : w.heap.size ≤ X7 := by have := HB.out.size; omega
  rw [← hv3, ← hX7]
  replace HB := Lib.hid (HB.out.trans (hb_.mono HB.out.size))
  replace H6 := Lib.hid (H6.out.below hb_)
  replace Hp7 := Lib.hid (Hp7.out.below hb_)
  clear hb_ hv3 hX7
  rcases ans_cases cs with ⟨h1, h2⟩ | ⟨h1, h2, h3, h4⟩
  · skip
    have HTe := Lib.hid (show T.2 = 310 by rw [HT.out]; exact h2)
    have HTr := Lib.hid (show T.1 = pk0 by rw [HT.out]; exact h1)
    clear h1 h2
    rw [HTe.out]
    have Hk := Lib.hid (Blk.range HBX7.out)
    go_wp2_with (first | (refine wpList_load_mid_g (by first | rfl | simp [Region.wanted, yielded]) 39 (.tmp 7) rfl X7 0 rfl (pvC pv7) d39 Hk.out hd39 hrow39 (by rw [pvC_len]; kernel_rfl) ?_) | (refine wpList_buildN_g (by first | rfl | simp [Region.wanted, yielded]) 39 _ rfl [] rfl _ built39z ?_))
    refine (Same_any pv7 pv0 pk0 pk0 v3 (HTr.out ▸ Hp7.out) (pvOk0 _) okP0 okP0).mono ?_
    rintro e v4 ⟨rfl, hb_⟩
    replace HB := Lib.hid (HB.out.trans (hb_.mono HB.out.size))
    replace H6 := Lib.hid (H6.out.below hb_)
    replace Hp7 := Lib.hid (Hp7.out.below hb_)
    replace HBX7 := Lib.hid (HBX7.out.below hb_ HBX7.out.lt)
    clear hb_
    rw [decide_eq_true rfl]
    go_wp2_with fail
    go_ret
    exact ⟨rfl, HB.out⟩
  · skip
    have HTe := Lib.hid (show T.2 = 0 by rw [HT.out]; exact h2)
    have HTv := Lib.hid (show validP T.1 = true by rw [HT.out]; exact h3)
    have HTb := Lib.hid (show bytP T.1 = cs by rw [HT.out]; exact h4)
    clear h1 h2 h3 h4
    rw [HTe.out]
    go_upto_region 7 with fail
    refine wp_region_flowF [40, 41, 42, 43, 44, 45, 46, 47, 48, 49, 50, 51, 52, 4] [(Spec.is (.bool true), false), (Spec.is (.bool true), false), (Spec.is (.agg (pvC pv7).toArray), false), (Spec.is (.bool true), false), (Spec.is (.bool true), false), (Spec.is (.bool true), false), (Spec.is (.agg (pvC pv7).toArray), false), (spBytes cs, false), (Spec.is (.string (str cs)), false), (Spec.is (.slice A6 (3 + L) c6), false), (Spec.is (.string (str cs)), false), (Spec.is (.bool true), false), (Spec.is (.bool true), false), (Spec.is (.bool true), false)] 53 (by kernel_rfl) rfl (by decide) rfl (by decide) (by kernel_rfl) ?_ ?_
    · refine ⟨?_, ?_, ?_, ?_, ?_, ?_, ?_, ?_, ?_, ?_, ?_, ?_, ?_, ?_, trivial⟩
      · intro a W hE hb hs
        have h5 : a.eval (.tmp 5) = .bool true := hb 5 (by decide)
        refine flow0 rfl ?_
        exact val_move _ rfl _ h5 ⟨rfl, trivial⟩
      · intro a W hE hb hs
        have h40 : a.eval (.tmp 40) = .bool true := hs 0 (by decide)
        refine flow0 rfl ?_
        exact val_move _ rfl _ h40 ⟨rfl, trivial⟩
      · intro a W hE hb hs
        have h7 : a.eval (.tmp 7) = .pointer (some ⟨X7, 0, none⟩) := hb 7 (by decide)
        have h41 : a.eval (.tmp 41) = .bool true := hs 1 (by decide)
        refine flowY rfl rfl h41 ?_
        exact val_load_row 39 _ rfl X7 0 h7 (pvC pv7) d39 (Blk.range (HBX7.out.below (ext_below hE) HBX7.out.lt)) hd39 hrow39 (by rw [pvC_len]; kernel_rfl) ⟨rfl, trivial⟩
      · intro a W hE hb hs
        have h42 : a.eval (.tmp 42) = .agg (pvC pv7).toArray := hs 2 (by decide)
        have h41 : a.eval (.tmp 41) = .bool true := hs 1 (by decide)
        refine flowY rfl rfl h41 ?_
        exact val_call 28 _ _ rfl (by kernel_rfl) [.agg (pvC pv7).toArray] (by show [a.eval (.tmp 42)] = _; rw [h42]) ((Valid_any pv7 T.1 W (Hp7.out.below (ext_below hE))).mono (by rintro e W' ⟨rfl, hb⟩; rw [HTv.out]; exact ⟨_, rfl, hb, rfl, trivial⟩))
      · intro a W hE hb hs
        have h41 : a.eval (.tmp 41) = .bool true := hs 1 (by decide)
        have h43 : a.eval (.tmp 43) = .bool true := hs 3 (by decide)
        refine flow0 rfl ?_
        exact val_pick _ _ _ rfl true h41 _ (by rw [if_pos rfl]; exact h43) ⟨rfl, trivial⟩
      · intro a W hE hb hs
        have h44 : a.eval (.tmp 44) = .bool true := hs 4 (by decide)
        refine flow0 rfl ?_
        exact val_move _ rfl _ h44 ⟨rfl, trivial⟩
      · intro a W hE hb hs
        have h7 : a.eval (.tmp 7) = .pointer (some ⟨X7, 0, none⟩) := hb 7 (by decide)
        have h45 : a.eval (.tmp 45) = .bool true := hs 5 (by decide)
        refine flowY rfl rfl h45 ?_
        exact val_load_row 39 _ rfl X7 0 h7 (pvC pv7) d39 (Blk.range (HBX7.out.below (ext_below hE) HBX7.out.lt)) hd39 hrow39 (by rw [pvC_len]; kernel_rfl) ⟨rfl, trivial⟩
      · intro a W hE hb hs
        have h46 : a.eval (.tmp 46) = .agg (pvC pv7).toArray := hs 6 (by decide)
        have h45 : a.eval (.tmp 45) = .bool true := hs 5 (by decide)
        refine flowY rfl rfl h45 ?_
        exact val_call 26 _ _ rfl (by kernel_rfl) [.agg (pvC pv7).toArray] (by show [a.eval (.tmp 46)] = _; rw [h46]) ((NBytesL_any pv7 T.1 cs W (Hp7.out.below (ext_below hE)) HTv.out HTb.out).mono (by rintro e W' ⟨⟨A', c', rfl, hc', hr'⟩, hb'⟩; exact ⟨_, rfl, hb', ⟨A', _, c', rfl, hr'⟩, trivial⟩))
      · intro a W hE hb hs
        have h47 : ∃ (A : Option Addr) (n c : Nat), (a.eval (.tmp 47)) = .slice A n c ∧ Rd W 1 A n (cs.map byteV) := hs 7 (by decide)
        have h45 : a.eval (.tmp 45) = .bool true := hs 5 (by decide)
        refine flowY rfl rfl h45 ?_
        obtain ⟨A', n', c', e_, hr_⟩ := h47
        have hcv := convert_bytes A' n' c' cs W hr_
        intro K hK
        unfold Oper.wp execOp
        simp only [e_]
        simp [go_sem, hcv]
        exact hK _ _ ⟨Below.refl _ _, rfl, trivial⟩
      · intro a W hE hb hs
        have h6 : a.eval (.tmp 6) = .slice A6 (3 + L) c6 := hb 6 (by decide)
        have h45 : a.eval (.tmp 45) = .bool true := hs 5 (by decide)
        refine flowY rfl rfl h45 ?_
        exact val_move _ rfl _ h6 ⟨rfl, trivial⟩
      · intro a W hE hb hs
        have h49 : a.eval (.tmp 49) = .slice A6 (3 + L) c6 := hs 9 (by decide)
        have h45 : a.eval (.tmp 45) = .bool true := hs 5 (by decide)
        refine flowY rfl rfl h45 ?_
        have hcv := convert_bytes A6 (3 + L) c6 cs W (H6.out.below (ext_below hE))
        intro K hK
        unfold Oper.wp execOp
        simp only [h49]
        simp [go_sem, hcv]
        exact hK _ _ ⟨Below.refl _ _, rfl, trivial⟩
      · intro a W hE hb hs
        have h48 : a.eval (.tmp 48) = .string (str cs) := hs 8 (by decide)
        have h50 : a.eval (.tmp 50) = .string (str cs) := hs 10 (by decide)
        have h45 : a.eval (.tmp 45) = .bool true := hs 5 (by decide)
        refine flowY rfl rfl h45 ?_
        intro K hK
        unfold Oper.wp execOp
        simp only [h48, h50]
        simp [go_sem]
        exact hK _ _ ⟨Below.refl _ _, rfl, trivial⟩
      · intro a W hE hb hs
        have h45 : a.eval (.tmp 45) = .bool true := hs 5 (by decide)
        have h51 : a.eval (.tmp 51) = .bool true := hs 11 (by decide)
        refine flow0 rfl ?_
        exact val_pick _ _ _ rfl true h45 _ (by rw [if_pos rfl]; exact h51) ⟨rfl, trivial⟩
      · intro a W hE hb hs
        have h52 : a.eval (.tmp 52) = .bool true := hs 12 (by decide)
        refine flow0 rfl ?_
        exact val_assign _ rfl _ h52 ⟨rfl, trivial⟩
    intro f W hb hT hp hd
    have e4 : f 4 = .bool true := hT 13 (by decide)
    simp only [putV, List.foldl_cons, List.foldl_nil, Act.put, List.setIfInBounds_toArray, List.set_cons_succ, List.set_cons_zero, Exit.then]
    rw [e4]
    have HB2 := Lib.hid (HB.out.trans (hb.mono HB.out.size))
    clear hb hT hp hd e4
    go_wp2_with fail
    go_ret
    exact ⟨rfl, HB2.out⟩
end Go.Proofs.Yteofgkdpknaapaa
