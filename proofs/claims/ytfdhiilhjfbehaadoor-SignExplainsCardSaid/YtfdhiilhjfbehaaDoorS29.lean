/- SignExplains: a signature is accepted exactly if the chunk to which its chains lead is accepted. -/
import Derived.Test.YtfdhiilhjfbehaaDoorS28
namespace Go.Proofs.YtfdhiilhjfbehaaDoor
open Go.RowKit Go.Sort

theorem secS_n0 (bs : List UInt8) (a : UInt8) : (secS bs a 0).n = ((0 : Nat) : Int) := by
  show ((((0 : UInt8).toNat % (2 ^ (a.toNat % 2) + 1)) : Nat) : Int) = _
  rw [show (0 : UInt8).toNat = 0 from rfl, Nat.zero_mod]

set_option maxRecDepth 100000 in
set_option maxHeartbeats 4000000 in
theorem SignExplains_any (As : Option Addr) (ls cs : Nat) (bs : List UInt8) (b0 b1 b2 b3 b4 : UInt8) (A : Option Addr) (len cap : Nat) (bs2 : List UInt8) (w : World) (hg : Globs w) (hrs : Rd w 1 As ls (bs.map byteV)) (hr : Rd w 1 A len (bs2.map byteV)) (hlc : len ≤ cap) :
    Calls Tryd.prog 6 #[.slice As ls cs, .agg #[byteV b0, byteV b1, byteV b2, byteV b3, byteV b4], .slice A len cap] w fun e w' => e = .returned (.bool true) ∧ Below w.heap.size w w' := by
  obtain ⟨i32, hi32, hz32, hs32, hy32⟩ := info_parts info32
  obtain ⟨i37, hi37, hz37, _, _⟩ := info_parts info37
  obtain ⟨i28, hi28, hz28, _, _⟩ := info_parts info28
  obtain ⟨i39, hi39, hz39, _, _⟩ := info_parts info39
  obtain ⟨d28, hd28, hrow28⟩ := und28
  obtain ⟨d37, hd37, hrow37⟩ := und37
  obtain ⟨d39, hd39, hrow39⟩ := und39
  unfold byteV
  go_enter Tryd.func6, Tryd.ntmps6
  go_upto_region 1 with fail
  obtain ⟨w1, hw1⟩ : ∃ v, v = w.alloc (.cells #[.int .u8 (b0.toNat : Int), .int .u8 (b1.toNat : Int), .int .u8 (b2.toNat : Int), .int .u8 (b3.toNat : Int), .int .u8 (b4.toNat : Int)] 23) := ⟨_, rfl⟩
  have hB1 : Below w.heap.size w w1 := by rw [hw1]; exact (Below.refl _ _).alloc (Nat.le_refl _) _
  have hX1 : Blk w1 w.heap.size 23 #[.int .u8 (b0.toNat : Int), .int .u8 (b1.toNat : Int), .int .u8 (b2.toNat : Int), .int .u8 (b3.toNat : Int), .int .u8 (b4.toNat : Int)] := by rw [hw1]; exact Blk.new _ _ _
  rw [← hw1]
  clear hw1
  have HB := Lib.hid hB1
  have HW := Lib.hid hX1
  have Hg := Lib.hid (hg.below hB1)
  have Hg0 := Lib.hid hg
  have Hr0 := Lib.hid hr
  have Hs := Lib.hid (hrs.below hB1)
  have Hr := Lib.hid (hr.below hB1)
  clear hB1 hX1 hg hrs hr
  go_upto_region 2 with fail
  refine (sanity_any w1 Hg.out).mono ?_
  rintro e v1 ⟨rfl, hb_⟩
  replace HB := Lib.hid (HB.out.trans (hb_.mono HB.out.size))
  replace HW := Lib.hid (HW.out.below hb_ HW.out.lt)
  replace Hg := Lib.hid (Hg.out.below hb_)
  replace Hs := Lib.hid (Hs.out.below hb_)
  replace Hr := Lib.hid (Hr.out.below hb_)
  clear hb_
  have cx0 : v1.cell? ⟨w.heap.size, 0, none⟩ = some (.int .u8 (b0.toNat : Int)) := by rw [HW.out.cell]; rfl
  go_upto_region 3 with fail
  refine (Secret_any As ls cs bs b0 0 v1 Hs.out).mono ?_
  rintro e v2 ⟨rfl, hb_⟩
  replace HB := Lib.hid (HB.out.trans (hb_.mono HB.out.size))
  replace HW := Lib.hid (HW.out.below hb_ HW.out.lt)
  replace Hg := Lib.hid (Hg.out.below hb_)
  replace Hs := Lib.hid (Hs.out.below hb_)
  replace Hr := Lib.hid (Hr.out.below hb_)
  clear hb_
  clear cx0
  obtain ⟨k, hk⟩ : ∃ k, k = secS bs b0 0 := ⟨_, rfl⟩
  rw [← hk]
  obtain ⟨H, N, e1, hH, e3, hN, hv⟩ := secS_valid bs b0 0
  rw [← hk] at e1 e3 hv
  have e30 : k.n = ((0 : Nat) : Int) := by rw [hk]; exact secS_n0 bs b0
  have E1 := Lib.hid e1
  have E3 := Lib.hid e30
  have HV := Lib.hid hv
  clear hk e1 e3 hv hN e30
  clear Hs
  obtain ⟨v3a, hv3a⟩ : ∃ v, v = (v2.alloc (.cells (secV sc0).toArray 28)) := ⟨_, rfl⟩
  obtain ⟨X8, hX8⟩ : ∃ v, v = v2.heap.size := ⟨_, rfl⟩
  have hNX8 : Blk (v2.alloc (.cells (secV sc0).toArray 28)) X8 28 (secV sc0).toArray := by
    have := Blk.new v2 28 (secV sc0).toArray
    skip
    rw [hX8]; exact this
  rw [← hv3a] at hNX8
  have hbA : Below v2.heap.size v2 v3a := by
    rw [hv3a]; exact (Below.refl _ _).alloc (by simp) _
  have HNX8 := Lib.hid hNX8
  have hkX8 := (KeptIn.refl (fun b => b ≠ X8) v3a).setRow (g := X8) (fun h => h rfl) (secV k).toArray
  replace hNX8 : Blk (v3a.setRow X8 (secV k).toArray) X8 28 (secV k).toArray := setRow_heap _ _ _ _ _ _ HNX8.out
  obtain ⟨v3, hv3⟩ : ∃ v, v = (v3a.setRow X8 (secV k).toArray) := ⟨_, rfl⟩
  have hbB : Below v2.heap.size v2 v3 := by rw [hv3]; exact (Below.setRow hbA (show v2.heap.size ≤ X8 by omega) _)
  rw [← hv3] at hNX8
  have HBX8 := Lib.hid hNX8
  have Hv3a := Lib.hid hv3a
  have Hv3 := Lib.hid hv3
  have HEX8 := Lib.hid hX8
  clear hNX8 hkX8 hv3a hv3 hbA
  have hlX8 : w.heap.size ≤ X8 := by have := HB.out.size; omega
  have hoX8 : w.heap.size < X8 := by have := HW.out.lt; omega
  clear hX8
  go_upto_region 3 with (first | (refine wpList_alloc0 rfl 28 rfl (secV sc0).toArray _ i28 hi28 hz28 rfl ?_; simp only [Act.put, List.setIfInBounds_toArray, List.set_cons_succ, List.set_cons_zero]; try simp only [World.size_alloc]) | (rw [← Hv3a.out, ← HEX8.out]; refine wpList_store_row rfl 28 (.tmp 8) (.tmp 27) rfl X8 (secV k).toArray rfl rfl 28 _ HNX8.out (size28 _ (sec_size _)) ((sec_size _).trans (sec_size _).symm) (sec_one _) ?_; rw [← Hv3.out]))
  replace HB := Lib.hid (HB.out.trans (hbB.mono HB.out.size))
  replace HW := Lib.hid (HW.out.below hbB HW.out.lt)
  replace Hg := Lib.hid (Hg.out.below hbB)
  replace Hr := Lib.hid (Hr.out.below hbB)
  clear hbB
  clear HNX8 HEX8 Hv3a Hv3
  go_upto_region 4 with fail
  refine (Limited_any A len cap 60 bs2 v3 Hr.out hlc (by omega)).mono ?_
  rintro e v4 ⟨⟨len', rfl, hl1, hl2, hr'⟩, hw'⟩
  subst hw'
  obtain ⟨B, hB⟩ : ∃ B, B = bs2.take 60 := ⟨_, rfl⟩
  rw [← hB] at hr'
  have Hb := Lib.hid hr'
  have HBl := Lib.hid (show len' ≤ bs2.length by have := hr'.len1; rw [hB, List.length_take] at this; omega)
  clear hr' hB
  clear Hr
  have Hk := Lib.hid (Blk.range HBX8.out)
  go_upto_region 5 with (refine wpList_load_mid rfl 28 (.tmp 8) rfl X8 0 rfl (secV k) d28 Hk.out hd28 hrow28 (by rw [secV_len]; kernel_rfl) ?_)
  obtain ⟨ch, pa, hSv, hcl, hpl, _⟩ := sign_ok B HV.out E3.out E1.out (Nat.two_pow_pos H)
  have hmade := made_any k A len' cap B v4 Hg.out Hb.out (by omega)
  rw [hSv] at hmade
  dsimp only at hmade
  have Hmade := Lib.hid hmade
  clear hmade hSv Hk
  obtain ⟨k2, hk2⟩ : ∃ k2 : Sc, k2 = ⟨k.s, k.h, ((0 : Nat) : Int) + 1⟩ := ⟨_, rfl⟩
  rw [← hk2] at Hmade
  clear hk2
  refine (Hmade.out).mono ?_
  rintro e v5 ⟨⟨C, n, c, D, m, d, rfl, hnc, hmd, hC, hD⟩, hb_⟩
  replace HB := Lib.hid (HB.out.trans (hb_.mono HB.out.size))
  replace HW := Lib.hid (HW.out.below hb_ HW.out.lt)
  replace Hg := Lib.hid (Hg.out.below hb_)
  replace HBX8 := Lib.hid (HBX8.out.below hb_ HBX8.out.lt)
  replace Hb := Lib.hid (Hb.out.below hb_)
  clear hb_
  have qn := hC.1.lenf sumC_len (by omega)
  have qm := hD.1.lenf sumC_len (by omega)
  have HC := Lib.hid hC
  have HD := Lib.hid hD
  clear hC hD Hmade
  obtain ⟨v6a, hv6a⟩ : ∃ v, v = (v5.alloc (.cells (sgnV 0 none 0 0 none 0 0 sc0 0).toArray 39)) := ⟨_, rfl⟩
  obtain ⟨X10, hX10⟩ : ∃ v, v = v5.heap.size := ⟨_, rfl⟩
  have hNX10 : Blk (v5.alloc (.cells (sgnV 0 none 0 0 none 0 0 sc0 0).toArray 39)) X10 39 (sgnV 0 none 0 0 none 0 0 sc0 0).toArray := by
    have := Blk.new v5 39 (sgnV 0 none 0 0 none 0 0 sc0 0).toArray
    skip
    rw [hX10]; exact this
  rw [← hv6a] at hNX10
  have hbA : Below v5.heap.size v5 v6a := by
    rw [hv6a]; exact (Below.refl _ _).alloc (by simp) _
  have HNX10 := Lib.hid hNX10
  have hkX10 := (KeptIn.refl (fun b => b ≠ X10) v6a).setRow (g := X10) (fun h => h rfl) (sgnV ((0 : Nat) : Int) C n c D m d k2 0).toArray
  replace hNX10 : Blk (v6a.setRow X10 (sgnV ((0 : Nat) : Int) C n c D m d k2 0).toArray) X10 39 (sgnV ((0 : Nat) : Int) C n c D m d k2 0).toArray := setRow_heap _ _ _ _ _ _ HNX10.out
  obtain ⟨v6, hv6⟩ : ∃ v, v = (v6a.setRow X10 (sgnV ((0 : Nat) : Int) C n c D m d k2 0).toArray) := ⟨_, rfl⟩
  have hbB : Below v5.heap.size v5 v6 := by rw [hv6]; exact (Below.setRow hbA (show v5.heap.size ≤ X10 by omega) _)
  rw [← hv6] at hNX10
  have HBX10 := Lib.hid hNX10
  have Hv6a := Lib.hid hv6a
  have Hv6 := Lib.hid hv6
  have HEX10 := Lib.hid hX10
  clear hNX10 hkX10 hv6a hv6 hbA
  have hlX10 : w.heap.size ≤ X10 := by have := HB.out.size; omega
  have hoX10 : w.heap.size < X10 := by have := HW.out.lt; omega
  have hoX8X10 : X8 < X10 := by have := HBX8.out.lt; omega
  clear hX10
  go_upto_region 5 with (first | (refine wpList_alloc0 rfl 39 rfl (sgnV 0 none 0 0 none 0 0 sc0 0).toArray _ i39 hi39 hz39 rfl ?_; simp only [Act.put, List.setIfInBounds_toArray, List.set_cons_succ, List.set_cons_zero]; try simp only [World.size_alloc]) | (rw [← Hv6a.out, ← HEX10.out]; refine wpList_store_row rfl 39 (.tmp 10) (.tmp 32) rfl X10 (sgnV ((0 : Nat) : Int) C n c D m d k2 0).toArray rfl rfl 39 _ HNX10.out (size39 _ (sgn_size _ _ _ _ _ _ _ _ _)) ((sgn_size _ _ _ _ _ _ _ _ _).trans (sgn_size _ _ _ _ _ _ _ _ _).symm) (sgn_one _ _ _ _ _ _ _ _ _) ?_; rw [← Hv6.out]))
  replace HB := Lib.hid (HB.out.trans (hbB.mono HB.out.size))
  replace HW := Lib.hid (HW.out.below hbB HW.out.lt)
  replace Hg := Lib.hid (Hg.out.below hbB)
  replace HBX8 := Lib.hid (HBX8.out.below hbB HBX8.out.lt)
  replace Hb := Lib.hid (Hb.out.below hbB)
  replace HC := Lib.hid (HC.out.below hbB)
  replace HD := Lib.hid (HD.out.below hbB)
  clear hbB
  clear HNX10 HEX10 Hv6a Hv6
  have Hk := Lib.hid (Blk.range HBX8.out)
  have hp := pub_ok HV.out
  go_upto_region 6 with (refine wpList_load_mid rfl 28 (.tmp 8) rfl X8 0 rfl (secV k) d28 Hk.out hd28 hrow28 (by rw [secV_len]; kernel_rfl) ?_)
  refine (Public_any k v6 Hg.out).mono ?_
  rintro e v7 ⟨rfl, hb_⟩
  replace HB := Lib.hid (HB.out.trans (hb_.mono HB.out.size))
  replace HW := Lib.hid (HW.out.below hb_ HW.out.lt)
  replace Hg := Lib.hid (Hg.out.below hb_)
  replace HBX8 := Lib.hid (HBX8.out.below hb_ HBX8.out.lt)
  replace Hb := Lib.hid (Hb.out.below hb_)
  replace HC := Lib.hid (HC.out.below hb_)
  replace HD := Lib.hid (HD.out.below hb_)
  replace HBX10 := Lib.hid (HBX10.out.below hb_ HBX10.out.lt)
  clear hb_
  rw [hp]
  clear Hk hp
  obtain ⟨P, hP⟩ : ∃ P, P = (pubS k).1 := ⟨_, rfl⟩
  rw [← hP]
  clear hP
  obtain ⟨v8a, hv8a⟩ : ∃ v, v = (v7.alloc (.cells zero32 26)) := ⟨_, rfl⟩
  obtain ⟨X11, hX11⟩ : ∃ v, v = v7.heap.size := ⟨_, rfl⟩
  have hNX11 : Blk (v7.alloc (.cells zero32 26)) X11 26 zero32 := by
    have := Blk.new v7 26 zero32
    skip
    rw [hX11]; exact this
  rw [← hv8a] at hNX11
  have hbA : Below v7.heap.size v7 v8a := by
    rw [hv8a]; exact (Below.refl _ _).alloc (by simp) _
  have HNX11 := Lib.hid hNX11
  have hkX11 := (KeptIn.refl (fun b => b ≠ X11) v8a).setRow (g := X11) (fun h => h rfl) (sumC P).toArray
  replace hNX11 : Blk (v8a.setRow X11 (sumC P).toArray) X11 26 (sumC P).toArray := setRow_heap _ _ _ _ _ _ HNX11.out
  obtain ⟨v8, hv8⟩ : ∃ v, v = (v8a.setRow X11 (sumC P).toArray) := ⟨_, rfl⟩
  have hbB : Below v7.heap.size v7 v8 := by rw [hv8]; exact (Below.setRow hbA (show v7.heap.size ≤ X11 by omega) _)
  rw [← hv8] at hNX11
  have HBX11 := Lib.hid hNX11
  have Hv8a := Lib.hid hv8a
  have Hv8 := Lib.hid hv8
  have HEX11 := Lib.hid hX11
  clear hNX11 hkX11 hv8a hv8 hbA
  have hlX11 : w.heap.size ≤ X11 := by have := HB.out.size; omega
  have hoX11 : w.heap.size < X11 := by have := HW.out.lt; omega
  have hoX8X11 : X8 < X11 := by have := HBX8.out.lt; omega
  have hoX10X11 : X10 < X11 := by have := HBX10.out.lt; omega
  clear hX11
  go_upto_region 6 with (first | (refine wpList_alloc0 rfl 26 rfl zero32 _ i32 hi32 hz32 rfl ?_; simp only [Act.put, List.setIfInBounds_toArray, List.set_cons_succ, List.set_cons_zero]; try simp only [World.size_alloc]) | (rw [← Hv8a.out, ← HEX11.out]; refine wpList_store_row rfl 26 (.tmp 11) (.tmp 36) rfl X11 (sumC P).toArray rfl rfl 26 _ HNX11.out (size32 _ (sum_size _)) ((zero32_size).trans (sum_size _).symm) (all_oneCell_toArray (oneB _)) ?_; rw [← Hv8.out]))
  replace HB := Lib.hid (HB.out.trans (hbB.mono HB.out.size))
  replace HW := Lib.hid (HW.out.below hbB HW.out.lt)
  replace Hg := Lib.hid (Hg.out.below hbB)
  replace HBX8 := Lib.hid (HBX8.out.below hbB HBX8.out.lt)
  replace Hb := Lib.hid (Hb.out.below hbB)
  replace HC := Lib.hid (HC.out.below hbB)
  replace HD := Lib.hid (HD.out.below hbB)
  replace HBX10 := Lib.hid (HBX10.out.below hbB HBX10.out.lt)
  clear hbB
  clear HNX11 HEX11 Hv8a Hv8
  have f1 := sgn_st HBX10.out
  have Hsg := Lib.hid (sgn_sig HBX10.out)
  have hform : formB ((0 : Nat) : Int) n m = true := by unfold formB; rw [decide_eq_true_eq]; refine ⟨by omega, by omega, by omega, ?_⟩; have := Nat.two_pow_pos m; exact_mod_cast this
  go_wp2_with (refine wpList_load_mid_g (by first | rfl | simp [Region.wanted, yielded]) 37 (.tmp 46) rfl X10 0 rfl (sgV ((0 : Nat) : Int) C n c D m d) d37 Hsg.out hd37 hrow37 (by rw [sgV_len]; kernel_rfl) ?_)
  refine (RFormed_any ((0 : Nat) : Int) C n c D m d v8).mono ?_
  rintro e v9 ⟨rfl, hb_⟩
  replace HB := Lib.hid (HB.out.trans (hb_.mono HB.out.size))
  replace HW := Lib.hid (HW.out.below hb_ HW.out.lt)
  replace Hg := Lib.hid (Hg.out.below hb_)
  replace HBX8 := Lib.hid (HBX8.out.below hb_ HBX8.out.lt)
  replace Hb := Lib.hid (Hb.out.below hb_)
  replace HC := Lib.hid (HC.out.below hb_)
  replace HD := Lib.hid (HD.out.below hb_)
  replace HBX10 := Lib.hid (HBX10.out.below hb_ HBX10.out.lt)
  replace HBX11 := Lib.hid (HBX11.out.below hb_ HBX11.out.lt)
  clear hb_
  rw [hform]
  clear f1 Hsg hform
  have cx2 : v9.cell? ⟨w.heap.size, 2, none⟩ = some (.int .u8 (b2.toNat : Int)) := by rw [HW.out.cell]; rfl
  have cx3 : v9.cell? ⟨w.heap.size, 3, none⟩ = some (.int .u8 (b3.toNat : Int)) := by rw [HW.out.cell]; rfl
  have cx4 : v9.cell? ⟨w.heap.size, 4, none⟩ = some (.int .u8 (b4.toNat : Int)) := by rw [HW.out.cell]; rfl
  have Hsg := Lib.hid (sgn_sig HBX10.out)
  go_upto_region 9 with (refine wpList_load_mid rfl 37 (.tmp 51) rfl X10 0 rfl (sgV ((0 : Nat) : Int) C n c D m d) d37 Hsg.out hd37 hrow37 (by rw [sgV_len]; kernel_rfl) ?_)
  refine (bent_any ((0 : Nat) : Int) C D n c m d ch pa b2 b3 b4 v9 HC.out.1 HD.out.1 (by omega) (by omega)).mono ?_
  rintro e v10 ⟨⟨i5, C5, n5, c5, D5, m5, d5, ch5, pa5, rfl, hnc5, hmd5, hn5, hm5, hC5, hD5⟩, hb_⟩
  replace HB := Lib.hid (HB.out.trans (hb_.mono HB.out.size))
  replace HW := Lib.hid (HW.out.below hb_ HW.out.lt)
  replace Hg := Lib.hid (Hg.out.below hb_)
  replace HBX8 := Lib.hid (HBX8.out.below hb_ HBX8.out.lt)
  replace Hb := Lib.hid (Hb.out.below hb_)
  replace HC := Lib.hid (HC.out.below hb_)
  replace HD := Lib.hid (HD.out.below hb_)
  replace HBX10 := Lib.hid (HBX10.out.below hb_ HBX10.out.lt)
  replace HBX11 := Lib.hid (HBX11.out.below hb_ HBX11.out.lt)
  clear hb_
  have HC5 := Lib.hid hC5
  have HD5 := Lib.hid hD5
  clear hC5 hD5 cx2 cx3 cx4 Hsg
  clear HW HC HD
  obtain ⟨v11a, hv11a⟩ : ∃ v, v = (v10.alloc (.cells (sgV 0 none 0 0 none 0 0).toArray 37)) := ⟨_, rfl⟩
  obtain ⟨X13, hX13⟩ : ∃ v, v = v10.heap.size := ⟨_, rfl⟩
  have hNX13 : Blk (v10.alloc (.cells (sgV 0 none 0 0 none 0 0).toArray 37)) X13 37 (sgV 0 none 0 0 none 0 0).toArray := by
    have := Blk.new v10 37 (sgV 0 none 0 0 none 0 0).toArray
    skip
    rw [hX13]; exact this
  rw [← hv11a] at hNX13
  have hbA : Below v10.heap.size v10 v11a := by
    rw [hv11a]; exact (Below.refl _ _).alloc (by simp) _
  have HNX13 := Lib.hid hNX13
  have hkX13 := (KeptIn.refl (fun b => b ≠ X13) v11a).setRow (g := X13) (fun h => h rfl) (sgV i5 C5 n5 c5 D5 m5 d5).toArray
  replace hNX13 : Blk (v11a.setRow X13 (sgV i5 C5 n5 c5 D5 m5 d5).toArray) X13 37 (sgV i5 C5 n5 c5 D5 m5 d5).toArray := setRow_heap _ _ _ _ _ _ HNX13.out
  obtain ⟨v11, hv11⟩ : ∃ v, v = (v11a.setRow X13 (sgV i5 C5 n5 c5 D5 m5 d5).toArray) := ⟨_, rfl⟩
  have hbB : Below v10.heap.size v10 v11 := by rw [hv11]; exact (Below.setRow hbA (show v10.heap.size ≤ X13 by omega) _)
  rw [← hv11] at hNX13
  have HBX13 := Lib.hid hNX13
  have Hv11a := Lib.hid hv11a
  have Hv11 := Lib.hid hv11
  have HEX13 := Lib.hid hX13
  clear hNX13 hkX13 hv11a hv11 hbA
  have hlX13 : w.heap.size ≤ X13 := by have := HB.out.size; omega
  have hoX8X13 : X8 < X13 := by have := HBX8.out.lt; omega
  have hoX10X13 : X10 < X13 := by have := HBX10.out.lt; omega
  have hoX11X13 : X11 < X13 := by have := HBX11.out.lt; omega
  clear hX13
  go_upto_region 9 with (first | (refine wpList_alloc0 rfl 37 rfl (sgV 0 none 0 0 none 0 0).toArray _ i37 hi37 hz37 rfl ?_; simp only [Act.put, List.setIfInBounds_toArray, List.set_cons_succ, List.set_cons_zero]; try simp only [World.size_alloc]) | (rw [← Hv11a.out, ← HEX13.out]; refine wpList_store_row rfl 37 (.tmp 13) (.tmp 60) rfl X13 (sgV i5 C5 n5 c5 D5 m5 d5).toArray rfl rfl 37 _ HNX13.out (size37 _ rfl) rfl (sg_one _ _ _ _ _ _ _) ?_; rw [← Hv11.out]))
  replace HB := Lib.hid (HB.out.trans (hbB.mono HB.out.size))
  replace Hg := Lib.hid (Hg.out.below hbB)
  replace HBX8 := Lib.hid (HBX8.out.below hbB HBX8.out.lt)
  replace Hb := Lib.hid (Hb.out.below hbB)
  replace HBX10 := Lib.hid (HBX10.out.below hbB HBX10.out.lt)
  replace HBX11 := Lib.hid (HBX11.out.below hbB HBX11.out.lt)
  replace HC5 := Lib.hid (HC5.out.below hbB)
  replace HD5 := Lib.hid (HD5.out.below hbB)
  clear hbB
  clear HNX13 HEX13 Hv11a Hv11
  clear HBX8 HBX10
  have Hsg := Lib.hid (Blk.range HBX13.out)
  go_wp2_with (refine wpList_load_mid rfl 37 (.tmp 13) rfl X13 0 rfl (sgV i5 C5 n5 c5 D5 m5 d5) d37 Hsg.out hd37 hrow37 (by rw [sgV_len]; kernel_rfl) ?_)
  refine (RFormed_any i5 C5 n5 c5 D5 m5 d5 v11).mono ?_
  rintro e v12 ⟨rfl, hb_⟩
  replace HB := Lib.hid (HB.out.trans (hb_.mono HB.out.size))
  replace Hg := Lib.hid (Hg.out.below hb_)
  replace Hb := Lib.hid (Hb.out.below hb_)
  replace HBX11 := Lib.hid (HBX11.out.below hb_ HBX11.out.lt)
  replace HC5 := Lib.hid (HC5.out.below hb_)
  replace HD5 := Lib.hid (HD5.out.below hb_)
  replace HBX13 := Lib.hid (HBX13.out.below hb_ HBX13.out.lt)
  clear hb_
  clear Hsg
  have q5n := HC5.out.1.lenf sumC_len (by omega)
  have q5m := HD5.out.1.lenf sumC_len (by omega)
  by_cases hf : formB i5 n5 m5 = true
  rotate_left
  · skip
    have hf' : formB i5 n5 m5 = false := by simpa using hf
    have hver : verS P B ⟨i5, ch5, pa5⟩ = false := by rw [ver_form P B i5 ch5 pa5 n5 m5 q5n q5m, if_neg hf]
    rw [hf']
    have Hver := Lib.hid hver
    clear hver hf hf'
    have Hsg := Lib.hid (Blk.range HBX13.out)
    have Hp := Lib.hid (Blk.range HBX11.out)
    go_wp2_with (first | (refine wpList_load_mid_g (by first | rfl | simp [Region.wanted, yielded]) 26 (.tmp 11) rfl X11 0 rfl (sumC P) _ Hp.out und32 rfl (by rw [sumC_len]; kernel_rfl) ?_) | (refine wpList_load_mid_g (by first | rfl | simp [Region.wanted, yielded]) 37 (.tmp 13) rfl X13 0 rfl (sgV i5 C5 n5 c5 D5 m5 d5) d37 Hsg.out hd37 hrow37 (by rw [sgV_len]; kernel_rfl) ?_))
    refine (Verify_any P A len' cap B i5 C5 D5 n5 c5 m5 d5 ch5 pa5 v12 Hg.out Hb.out (by omega) HC5.out.1 HD5.out.1 hmd5).mono ?_
    rintro e v13 ⟨rfl, hb_⟩
    replace HB := Lib.hid (HB.out.trans (hb_.mono HB.out.size))
    replace Hg := Lib.hid (Hg.out.below hb_)
    replace Hb := Lib.hid (Hb.out.below hb_)
    replace HBX11 := Lib.hid (HBX11.out.below hb_ HBX11.out.lt)
    replace HC5 := Lib.hid (HC5.out.below hb_)
    replace HD5 := Lib.hid (HD5.out.below hb_)
    replace HBX13 := Lib.hid (HBX13.out.below hb_ HBX13.out.lt)
    clear hb_
    rw [Hver.out]
    go_wp2_with fail
    go_ret
    exact ⟨rfl, HB.out⟩
  obtain ⟨rfl, hm4, N5, rfl, hN5, h16⟩ := form_of hf
  rw [hf]
  have HVer := Lib.hid (show verS P B ⟨(N5 : Int), ch5, pa5⟩ = decide (chkL (2 ^ m5) N5 (leafS (endK (digS B) ch5 67)) pa5 = some P) by rw [ver_form P B _ ch5 pa5 67 m5 q5n q5m, if_pos hf]; rfl)
  have HN5 := Lib.hid hN5
  have H16 := Lib.hid (show 2 ^ m5 ≤ 1000000 by omega)
  clear hf hN5 h16
  obtain ⟨i0, hi0, hz0, hz1, hz2⟩ := info_parts info5
  obtain ⟨i3, hi3, hz3, hs3, hy3⟩ := info_parts info3
  have Hi5 := Lib.hid hi0
  have Hz5 := Lib.hid hz0
  have Hbl := Lib.hid (Hb.out.alloc (.cells #[.int .u8 4] 5))
  go_wp2_with (at_builtin; refine wpList_app rfl (.tmp 72) (.tmp 73) 22 rfl 5 i0 (.int .u8 0) 1 Tryd.underlying22 hi0 hz0 hz1 hz2 rfl v12.heap.size (by simp) _ 1 _ rfl (.inr (own_lit v12 5 (.int .u8 4))) A len' cap (B.map byteV) rfl Hbl.out oneB1 (by unfold maxLen; omega) (by omega) ?_; intro v' w9 happ hb1; have Hb1 := Lib.hid (((Below.refl v12.heap.size v12).alloc (Nat.le_refl _) (.cells #[.int .u8 4] 5)).trans hb1); obtain ⟨A1, c1, rfl, hc1, hrd1⟩ := happ.rd; have Hrd1 := Lib.hid (show Rd w9 1 A1 (1 + len') ((4 :: B).map byteV) from hrd1); clear happ hb1 hrd1)
  replace HB := Lib.hid (HB.out.trans (Hb1.out.mono HB.out.size))
  replace Hg := Lib.hid (Hg.out.below Hb1.out)
  replace Hb := Lib.hid (Hb.out.below Hb1.out)
  replace HBX11 := Lib.hid (HBX11.out.below Hb1.out HBX11.out.lt)
  replace HC5 := Lib.hid (HC5.out.below Hb1.out)
  replace HD5 := Lib.hid (HD5.out.below Hb1.out)
  replace HBX13 := Lib.hid (HBX13.out.below Hb1.out HBX13.out.lt)
  clear Hb1 Hbl
  refine (Sum_any A1 (1 + len') c1 (4 :: B) w9 Hg.out Hrd1.out (by omega) hc1).mono ?_
  rintro e v13 ⟨rfl, hb_⟩
  replace HB := Lib.hid (HB.out.trans (hb_.mono HB.out.size))
  replace Hg := Lib.hid (Hg.out.below hb_)
  replace Hb := Lib.hid (Hb.out.below hb_)
  replace HBX11 := Lib.hid (HBX11.out.below hb_ HBX11.out.lt)
  replace HC5 := Lib.hid (HC5.out.below hb_)
  replace HD5 := Lib.hid (HD5.out.below hb_)
  replace HBX13 := Lib.hid (HBX13.out.below hb_ HBX13.out.lt)
  clear hb_
  clear Hrd1
  obtain ⟨D0, hD0⟩ : ∃ D0, D0 = shaS (4 :: B) := ⟨_, rfl⟩
  have hV : sumV (sha (4 :: B)) = .agg (sumC D0).toArray := by rw [hD0]; rfl
  rw [hV]
  have Hdig := Lib.hid (show digS B = digB D0.1 by rw [hD0]; rfl)
  clear hD0 hV
  obtain ⟨v14a, hv14a⟩ : ∃ v, v = (v13.alloc (.cells zero32 26)) := ⟨_, rfl⟩
  obtain ⟨X14, hX14⟩ : ∃ v, v = v13.heap.size := ⟨_, rfl⟩
  have hNX14 : Blk (v13.alloc (.cells zero32 26)) X14 26 zero32 := by
    have := Blk.new v13 26 zero32
    skip
    rw [hX14]; exact this
  rw [← hv14a] at hNX14
  have hbA : Below v13.heap.size v13 v14a := by
    rw [hv14a]; exact (Below.refl _ _).alloc (by simp) _
  have HNX14 := Lib.hid hNX14
  have hkX14 := (KeptIn.refl (fun b => b ≠ X14) v14a).setRow (g := X14) (fun h => h rfl) (sumC D0).toArray
  replace hNX14 : Blk (v14a.setRow X14 (sumC D0).toArray) X14 26 (sumC D0).toArray := setRow_heap _ _ _ _ _ _ HNX14.out
  obtain ⟨v14, hv14⟩ : ∃ v, v = (v14a.setRow X14 (sumC D0).toArray) := ⟨_, rfl⟩
  have hbB : Below v13.heap.size v13 v14 := by rw [hv14]; exact (Below.setRow hbA (show v13.heap.size ≤ X14 by omega) _)
  rw [← hv14] at hNX14
  have HBX14 := Lib.hid hNX14
  have Hv14a := Lib.hid hv14a
  have Hv14 := Lib.hid hv14
  have HEX14 := Lib.hid hX14
  clear hNX14 hkX14 hv14a hv14 hbA
  have hlX14 : w.heap.size ≤ X14 := by have := HB.out.size; omega
  have hoX11X14 : X11 < X14 := by have := HBX11.out.lt; omega
  have hoX13X14 : X13 < X14 := by have := HBX13.out.lt; omega
  clear hX14
  go_upto_region 12 with (first | (refine wpList_alloc0 rfl 26 rfl zero32 _ i32 hi32 hz32 rfl ?_; simp only [Act.put, List.setIfInBounds_toArray, List.set_cons_succ, List.set_cons_zero]; try simp only [World.size_alloc]) | (rw [← Hv14a.out, ← HEX14.out]; refine wpList_store_row rfl 26 (.tmp 14) (.tmp 75) rfl X14 (sumC D0).toArray rfl rfl 26 _ HNX14.out (size32 _ (sum_size _)) ((zero32_size).trans (sum_size _).symm) (all_oneCell_toArray (oneB _)) ?_; rw [← Hv14.out]))
  replace HB := Lib.hid (HB.out.trans (hbB.mono HB.out.size))
  replace Hg := Lib.hid (Hg.out.below hbB)
  replace Hb := Lib.hid (Hb.out.below hbB)
  replace HBX11 := Lib.hid (HBX11.out.below hbB HBX11.out.lt)
  replace HC5 := Lib.hid (HC5.out.below hbB)
  replace HD5 := Lib.hid (HD5.out.below hbB)
  replace HBX13 := Lib.hid (HBX13.out.below hbB HBX13.out.lt)
  clear hbB
  clear HNX14 HEX14 Hv14a Hv14
  have hbs := nilI
  go_upto_region 13 with fail
  obtain ⟨v15, hv15⟩ : ∃ v, v = v14.alloc (.cells #[] 3) := ⟨_, rfl⟩
  have hb_ : Below v14.heap.size v14 v15 := by rw [hv15]; exact (Below.refl _ _).alloc (Nat.le_refl _) _
  rw [← hv15]
  clear hv15 hbs
  replace HB := Lib.hid (HB.out.trans (hb_.mono HB.out.size))
  replace Hg := Lib.hid (Hg.out.below hb_)
  replace Hb := Lib.hid (Hb.out.below hb_)
  replace HBX11 := Lib.hid (HBX11.out.below hb_ HBX11.out.lt)
  replace HC5 := Lib.hid (HC5.out.below hb_)
  replace HD5 := Lib.hid (HD5.out.below hb_)
  replace HBX13 := Lib.hid (HBX13.out.below hb_ HBX13.out.lt)
  replace HBX14 := Lib.hid (HBX14.out.below hb_ HBX14.out.lt)
  clear hb_
  have hDl : D0.1.length = 32 := D0.2
  go_upto_region 15 with fail
  have HF := Lib.hid HB.out
  have SHB := HB
  have SHg := Hg
  have SHb := Hb
  have SHBX11 := HBX11
  have SHC5 := HC5
  have SHD5 := HD5
  have SHBX13 := HBX13
  have SHBX14 := HBX14
  go_loopw [15, 16, 17] (fun x15 x16 x17 wr => ∃ i : Nat, x17 = .int .i64 (i : Int) ∧ i ≤ 32 ∧ x16 = .int .i64 (lackL (D0.1.take i) : Int) ∧ App wr v15.heap.size 3 x15 (2 * i) (((D0.1.take i).flatMap two_).map natV) ∧ Below v15.heap.size v15 wr) (fun _ _ x17 _ => 32 - (intOf x17).toNat)
  case atStart => exact ⟨0, rfl, by omega, rfl, .inl ⟨rfl, rfl, _, rfl⟩, Below.refl _ _⟩
  case round =>
    obtain ⟨i, rfl, hi, rfl, happ, hBr⟩ := hrel
    have Happ := Lib.hid happ
    have HBr := Lib.hid hBr
    have hszr := hBr.size
    clear happ hBr
    by_cases hlt : i < 32
    · skip
      replace HB := Lib.hid (SHB.out.trans (HBr.out.mono SHB.out.size))
      replace Hg := Lib.hid (SHg.out.below HBr.out)
      replace Hb := Lib.hid (SHb.out.below HBr.out)
      replace HBX11 := Lib.hid (SHBX11.out.below HBr.out SHBX11.out.lt)
      replace HC5 := Lib.hid (SHC5.out.below HBr.out)
      replace HD5 := Lib.hid (SHD5.out.below HBr.out)
      replace HBX13 := Lib.hid (SHBX13.out.below HBr.out SHBX13.out.lt)
      replace HBX14 := Lib.hid (SHBX14.out.below HBr.out SHBX14.out.lt)
      have d0 : decide ((i : Int) < 32) = true := decide_eq_true (by omega)
      obtain ⟨b, hb⟩ : ∃ b, D0.1[i]? = some b := ⟨_, List.getElem?_eq_getElem (by rw [hDl]; exact hlt)⟩
      have hcell : wr.cell? ⟨X14, i, none⟩ = some (.int .u8 (b.toNat : Int)) := by
        rw [HBX14.out.cell, List.getElem?_toArray]; unfold sumC; rw [List.getElem?_map, hb]; rfl
      have htk : D0.1.take (i + 1) = D0.1.take i ++ [b] := by rw [List.take_add_one, hb]; rfl
      have hbl := b.toNat_lt
      have hll : lackL (D0.1.take i) ≤ 960 := Nat.le_trans (lackL_le 32 _ (by rw [List.length_take]; omega)) (by omega)
      have Htk := Lib.hid htk
      have Hpl := Lib.hid (show lackL (D0.1.take (i + 1)) = lackL (D0.1.take i) + (30 - b.toNat / 16 - b.toNat % 16) by rw [htk, lackL_snoc, lack])
      have HcC := Lib.hid (show (sumC D0).toArray[i]? = some (.int .u8 (b.toNat : Int)) by rw [List.getElem?_toArray]; unfold sumC; rw [List.getElem?_map, hb]; rfl)
      clear hb htk
      go_upto_region 17 with fail
      have hi32 : (i : Int) < 32 := by omega
      have hi00 : (0 : Int) ≤ (i : Int) := by omega
      have e1 : IntKind.i64.wrap (IntKind.u8.wrap ((b.toNat : Int) / 16)) = ((b.toNat / 16 : Nat) : Int) := wrap_q b
      have e2 : IntKind.i64.wrap ((b.toNat : Int).tmod 16) = ((b.toNat % 16 : Nat) : Int) := wrap_r b
      have hlit : ∀ wz : World, Rd ((wz.alloc (.cells #[.int .i64 ((b.toNat : Int) / 16), .int .i64 ((b.toNat : Int) % 16)] 3)).drew) 1 (some ⟨wz.heap.size, 0, none⟩) 2 [natV (b.toNat / 16), natV (b.toNat % 16)] := by
        intro wz; exact (Blk.new wz 3 #[natV (b.toNat / 16), natV (b.toNat % 16)]).rd (xs := [natV (b.toNat / 16), natV (b.toNat % 16)]) (by simp)
      go_region_law (refine step_app rfl (.tmp 81) (.tmp 92) 52 rfl 3 i3 (.int .i64 0) 8 Tryd.underlying52 hi3 hz3 hs3 hy3 rfl v15.heap.size (by simp; omega) _ _ _ rfl (Happ.out.litE _) (some ⟨wr.heap.size, 0, none⟩) 2 2 [natV (b.toNat / 16), natV (b.toNat % 16)] rfl (hlit wr) (by simp [natV, Value.oneCell']) (by unfold maxLen; omega) (by omega) ?_; intro v9 w9 ha9 hb9)
      all_goals
        have HB9 := Lib.hid (HBr.out.trans ((((Below.refl v15.heap.size wr).alloc hszr _).drew).trans hb9))
        have Ha9 := Lib.hid ha9
        have hcell9 : w9.cell? ⟨X14, i, none⟩ = some (.int .u8 (b.toNat : Int)) := by
          rw [(SHBX14.out.below HB9.out SHBX14.out.lt).cell]; exact HcC.out
        have e3 : IntKind.i64.wrap (30 - (b.toNat : Int) / 16) = 30 - (b.toNat : Int) / 16 := by simp [IntKind.wrap, IntKind.bits, IntKind.signed]; omega
        have e4 : IntKind.i64.wrap (30 - (b.toNat : Int) / 16 - (b.toNat : Int) % 16) = 30 - (b.toNat : Int) / 16 - (b.toNat : Int) % 16 := by simp [IntKind.wrap, IntKind.bits, IntKind.signed]; omega
        have e5 : IntKind.i64.wrap ((lackL (D0.1.take i) : Int) + (30 - (b.toNat : Int) / 16 - (b.toNat : Int) % 16)) = ((lackL (D0.1.take (i + 1)) : Nat) : Int) := by rw [Hpl.out]; simp [IntKind.wrap, IntKind.bits, IntKind.signed]; omega
        clear hb9 ha9 hcell hlit
        go_upto_region 18 with fail
        go_quiet (fail)
        go_wp2_with fail
        have hxs : (((D0.1.take (i + 1)).flatMap two_).map natV) = ((D0.1.take i).flatMap two_).map natV ++ [natV (b.toNat / 16), natV (b.toNat % 16)] := by
          rw [Htk.out, List.flatMap_append, List.map_append]; rfl
        refine ⟨⟨i + 1, by push_cast; rfl, by omega, rfl, ?_, below_drewN HB9.out _⟩, by simp only [intOf]; omega⟩
        rw [hxs]
        exact Ha9.out.below (below_drewN (Below.refl _ _) _) (Nat.le_refl _)
    · skip
      have d0 : decide ((i : Int) < 32) = false := decide_eq_false (by omega)
      obtain rfl : i = 32 := by omega
      obtain ⟨L, hL⟩ : ∃ L, L = lackL (D0.1.take 32) := ⟨_, rfl⟩
      have hLl : L ≤ 960 := by rw [hL]; exact Nat.le_trans (lackL_le 32 _ (by rw [List.length_take]; omega)) (by omega)
      have htk : D0.1.take 32 = D0.1 := List.take_of_length_le (by omega)
      have Hdd := Lib.hid (show (digS B).map natV = ((D0.1.take 32).flatMap two_).map natV ++ [natV (L / 256), natV (L / 16 % 16), natV (L % 16)] by rw [Hdig.out, hL, htk]; unfold digB; rw [List.map_append]; rfl)
      have Hap := Happ
      rw [← hL]
      clear hL htk Happ
      have g1 : wrap64 ((L : Int) / 256) = (L : Int) / 256 := by unfold wrap64; omega
      have g2 : wrap64 ((L : Int) / 16) = (L : Int) / 16 := by unfold wrap64; omega
      have g3 : ((L : Int) / 16).tmod 16 = (L : Int) / 16 % 16 := by rw [Int.tmod_eq_emod_of_nonneg (by omega)]
      have hlit : ∀ wz : World, Rd (wz.alloc (.cells #[.int .i64 ((L : Int) / 256), .int .i64 ((L : Int) / 16 % 16), .int .i64 ((L : Int) % 16)] 3)) 1 (some ⟨wz.heap.size, 0, none⟩) 3 [natV (L / 256), natV (L / 16 % 16), natV (L % 16)] := by
        intro wz; exact (Blk.new wz 3 #[natV (L / 256), natV (L / 16 % 16), natV (L % 16)]).rd (xs := [natV (L / 256), natV (L / 16 % 16), natV (L % 16)]) (by simp)
      go_upto_region 20 with (at_builtin; refine wpList_app rfl (.tmp 108) (.tmp 116) 52 rfl 3 i3 (.int .i64 0) 8 Tryd.underlying52 hi3 hz3 hs3 hy3 rfl v15.heap.size (by simp; omega) _ 64 _ rfl (Hap.out.litE _) (some ⟨wr.heap.size, 0, none⟩) 3 3 [natV (L / 256), natV (L / 16 % 16), natV (L % 16)] rfl (hlit wr) (by simp [natV, Value.oneCell']) (by unfold maxLen; omega) (by omega) ?_; intro v9 w9 ha9 hb9; obtain ⟨A15, c15, rfl, hc15, hrd15⟩ := ha9.rd; rw [← Hdd.out] at hrd15; have Hdg := Lib.hid (show Rd w9 1 A15 67 ((digS B).map natV) from hrd15); have HB9 := Lib.hid (HBr.out.trans (((Below.refl v15.heap.size wr).alloc hszr _).trans hb9)); clear ha9 hb9 hrd15)
      clear hlit g1 g2 g3 Hap Hdd
      replace HB := Lib.hid (SHB.out.trans (HB9.out.mono SHB.out.size))
      replace Hg := Lib.hid (SHg.out.below HB9.out)
      replace Hb := Lib.hid (SHb.out.below HB9.out)
      replace HBX11 := Lib.hid (SHBX11.out.below HB9.out SHBX11.out.lt)
      replace HC5 := Lib.hid (SHC5.out.below HB9.out)
      replace HD5 := Lib.hid (SHD5.out.below HB9.out)
      replace HBX13 := Lib.hid (SHBX13.out.below HB9.out SHBX13.out.lt)
      replace HBX14 := Lib.hid (SHBX14.out.below HB9.out SHBX14.out.lt)
      clear HB9 HBr hszr SHB SHg SHb SHBX11 SHC5 SHD5 SHBX13 SHBX14 hlt
      have hbs := nil22
      go_upto_region 21 with fail
      obtain ⟨v201, hv201⟩ : ∃ v, v = w9.alloc (.cells #[] 5) := ⟨_, rfl⟩
      have hb_ : Below w9.heap.size w9 v201 := by rw [hv201]; exact (Below.refl _ _).alloc (Nat.le_refl _) _
      rw [← hv201]
      clear hv201 hbs
      replace HB := Lib.hid (HB.out.trans (hb_.mono HB.out.size))
      replace Hg := Lib.hid (Hg.out.below hb_)
      replace Hb := Lib.hid (Hb.out.below hb_)
      replace HBX11 := Lib.hid (HBX11.out.below hb_ HBX11.out.lt)
      replace HC5 := Lib.hid (HC5.out.below hb_)
      replace HD5 := Lib.hid (HD5.out.below hb_)
      replace HBX13 := Lib.hid (HBX13.out.below hb_ HBX13.out.lt)
      replace HBX14 := Lib.hid (HBX14.out.below hb_ HBX14.out.lt)
      replace Hdg := Lib.hid (Hdg.out.below hb_)
      clear hb_
      go_upto_region 22 with fail
      have SHB := HB
      have SHg := Hg
      have SHb := Hb
      have SHBX11 := HBX11
      have SHC5 := HC5
      have SHD5 := HD5
      have SHBX13 := HBX13
      have SHBX14 := HBX14
      have SHdg := Hdg
      obtain ⟨cb, co, hC5e, _⟩ := HC5.out.1.2.2 (by omega)
      subst hC5e
      obtain ⟨gb, go_, hA15e, _⟩ := Hdg.out.2.2 (by omega)
      subst hA15e
      go_loopw [18, 19, 20, 21] (fun x18 x19 _ _ wy => ∃ kk : Nat, x19 = .int .i64 (kk : Int) ∧ kk ≤ 67 ∧ App wy v201.heap.size 5 x18 (32 * kk) ((endK (digS B) ch5 kk).map byteV) ∧ Below v201.heap.size v201 wy) (fun _ x19 _ _ _ => 67 - (intOf x19).toNat)
      case atStart => exact ⟨0, rfl, by omega, .inl ⟨rfl, rfl, _, rfl⟩, Below.refl _ _⟩
      case round =>
        obtain ⟨kk, rfl, hk, happ, hBr⟩ := hrel
        have Happ := Lib.hid happ
        have HBr := Lib.hid hBr
        have hszr := hBr.size
        clear happ hBr
        by_cases hlt : kk < 67
        · skip
          replace HB := Lib.hid (SHB.out.trans (HBr.out.mono SHB.out.size))
          replace Hg := Lib.hid (SHg.out.below HBr.out)
          replace Hb := Lib.hid (SHb.out.below HBr.out)
          replace HBX11 := Lib.hid (SHBX11.out.below HBr.out SHBX11.out.lt)
          replace HC5 := Lib.hid (SHC5.out.below HBr.out)
          replace HD5 := Lib.hid (SHD5.out.below HBr.out)
          replace HBX13 := Lib.hid (SHBX13.out.below HBr.out SHBX13.out.lt)
          replace HBX14 := Lib.hid (SHBX14.out.below HBr.out SHBX14.out.lt)
          replace Hdg := Lib.hid (SHdg.out.below HBr.out)
          have d0 : decide ((kk : Int) < 67) = true := decide_eq_true (by omega)
          have hk67 : (kk : Int) < 67 := by omega
          have hk0 : (0 : Int) ≤ (kk : Int) := by omega
          obtain ⟨dg, hdg, hdl⟩ := digS_at (body := B) hlt
          obtain ⟨x, hx⟩ : ∃ x, x = ch5.getD kk z32 := ⟨_, rfl⟩
          have Hek := Lib.hid (show endK (digS B) ch5 (kk + 1) = endK (digS B) ch5 kk ++ (stS x (15 - dg)).1 by rw [endK, ← hx, List.getD_eq_getElem?_getD, hdg]; rfl)
          have hxr : wr.rangeAt cb (co + kk * 32) (sumC x) := by
            have := HC5.out.1.range32 hlt
            rwa [← hx] at this
          have gdg : wr.cell? ⟨gb, go_ + kk, none⟩ = some (.int .i64 (dg : Int)) := by
            obtain ⟨b', o', u, e1, e2, e3⟩ := Hdg.out.at_ (k := kk) hlt
            cases e1
            rw [hdg] at e2
            cases e2
            exact e3
          have Hxr := Lib.hid hxr
          have g13 : wr.cell? ⟨X13, 1, none⟩ = some (.slice (some ⟨cb, co, none⟩) 67 c5) := by rw [HBX13.out.cell]; rfl
          clear hdg hx hxr
          obtain ⟨wx, hwx⟩ : ∃ v, v = (wr.alloc (.cells zero32 26)).setRow wr.heap.size (sumC x).toArray := ⟨_, rfl⟩
          obtain ⟨X20, hX20⟩ : ∃ v, v = wr.heap.size := ⟨_, rfl⟩
          have hN20 : Blk (wr.alloc (.cells zero32 26)) X20 26 zero32 := by rw [hX20]; exact Blk.new _ _ _
          have hx20 : Blk wx X20 26 (sumC x).toArray := by rw [hwx, hX20]; exact setRow_heap _ _ _ _ _ _ (by rw [← hX20]; exact hN20)
          have hbx : Below wr.heap.size wr wx := by rw [hwx]; exact Below.setRow ((Below.refl _ _).alloc (Nat.le_refl _) _) (Nat.le_refl _) _
          have hBx20 : wr.heap.size ≤ X20 := by omega
          have gdx : wx.cell? ⟨gb, go_ + kk, none⟩ = some (.int .i64 (dg : Int)) := (hbx.cell (World.block_lt_of_cell? wr _ gdg)).trans gdg
          have HN20 := Lib.hid hN20
          have HX20 := Lib.hid hx20
          have HBX := Lib.hid hbx
          have HWX := Lib.hid hwx
          have HEX := Lib.hid hX20
          clear hN20 hx20 hbx hwx hX20
          go_upto_region 26 with (first | (refine wpList_load_mid rfl 26 (.tmp 126) rfl cb (co + kk * 32) rfl (sumC x) _ Hxr.out und32 rfl (by rw [sumC_len]; kernel_rfl) ?_) | (refine wpList_alloc0 rfl 26 rfl zero32 _ i32 hi32 hz32 rfl ?_; simp only [Act.put, List.setIfInBounds_toArray, List.set_cons_succ, List.set_cons_zero]) | (refine wpList_store_row rfl 26 (.tmp 20) (.tmp 127) rfl wr.heap.size (sumC x).toArray rfl rfl 26 _ (HEX.out ▸ HN20.out) (size32 _ (sum_size _)) ((zero32_size).trans (sum_size _).symm) (all_oneCell_toArray (oneB _)) ?_; rw [← HWX.out, ← HEX.out]))
          clear HN20 HWX HEX gdg gdx g13 Hxr
          obtain ⟨wo, hwo⟩ : ∃ wo, wo = wr := ⟨_, rfl⟩
          subst hwo
          go_loopw [21] (fun v21 wi => ∃ t : Nat, v21 = .int .i64 ((dg + t : Nat) : Int) ∧ dg + t ≤ 15 ∧ Blk wi X20 26 (sumC (stS x t)).toArray ∧ Below wo.heap.size wo wi) (fun v21 _ => 15 - (intOf v21).toNat)
          case atStart => exact ⟨0, by rw [Nat.add_zero], by omega, HX20.out, HBX.out⟩
          case round =>
            obtain ⟨t, rfl, ht15, hXi, hBi⟩ := hrel
            have HXi := Lib.hid hXi
            have HBi := Lib.hid hBi
            clear hXi hBi HX20 HBX
            by_cases hlt2 : dg + t < 15
            · skip
              have d1 : decide (((dg + t : Nat) : Int) < 15) = true := decide_eq_true (by omega)
              have hxr : Rd wr 1 (some ⟨X20, 0, none⟩) 32 (sumC (stS x t)) := by
                have := HXi.out.rd (by rw [sumC_len]; omega)
                rwa [sumC_len] at this
              have Hxr := Lib.hid hxr
              have hszi := HBi.out.size
              clear hxr
              go_wp2_with (at_builtin; refine wpList_app rfl (.tmp 136) (.tmp 137) 22 rfl 5 i0 (.int .u8 0) 1 Tryd.underlying22 hi0 hz0 hz1 hz2 rfl wr.heap.size (by simp) _ _ _ rfl (.inr (own_lit wr 5 (.int .u8 3))) (some ⟨X20, 0, none⟩) 32 32 (sumC (stS x t)) rfl (Hxr.out.alloc _) (oneB _) (by unfold maxLen; omega) (by omega) ?_; intro v' w2 happ hb1; obtain ⟨A1, c1, rfl, hc1, hrd1⟩ := happ.rd)
              have hB2 : Below wr.heap.size wr w2 := ((Below.refl _ _).alloc (Nat.le_refl _) _).trans hb1
              refine (Sum_any A1 (1 + 32) c1 (3 :: (stS x t).1) w2 ((Hg.out.below HBi.out).below hB2) hrd1 (by omega) hc1).mono ?_
              rintro e w3 ⟨rfl, hb3⟩
              have hB3 : Below wr.heap.size wr w3 := hB2.trans (hb3.mono hB2.size)
              have HX3 := Lib.hid (HXi.out.below hB3 HXi.out.lt)
              have HB3 := Lib.hid (HBi.out.trans (hB3.mono hszi))
              clear hB3 hb3 hb1 happ hrd1 hB2
              have Hend := Lib.hid (show Blk (w3.setRow X20 (sumC (stS x (t + 1))).toArray) X20 26 (sumC (stS x (t + 1))).toArray ∧ Below wo.heap.size wo (w3.setRow X20 (sumC (stS x (t + 1))).toArray) from ⟨setRow_heap _ _ _ _ _ _ HX3.out, Below.setRow HB3.out hBx20 _⟩)
              have hV : sumV (sha (3 :: (stS x t).1)) = .agg (sumC (stS x (t + 1))).toArray := rfl
              rw [hV]
              clear hV
              obtain ⟨Y, hY⟩ : ∃ Y, Y = stS x (t + 1) := ⟨_, rfl⟩
              rw [← hY] at Hend ⊢
              have wt1 : IntKind.i64.wrap (((dg + t : Nat) : Int) + 1) = ((dg + (t + 1) : Nat) : Int) := by simp [IntKind.wrap, IntKind.bits, IntKind.signed]; omega
              have HYe := Lib.hid hY
              clear hY
              go_wp2_with (refine wpList_store_row rfl 26 (.tmp 20) (.tmp 139) rfl X20 (sumC Y).toArray rfl rfl 26 _ HX3.out (size32 _ (sum_size _)) ((sum_size _).trans (sum_size _).symm) (all_oneCell_toArray (oneB _)) ?_)
              rw [HYe.out] at Hend ⊢
              exact ⟨⟨t + 1, by push_cast; first | rfl | (congr 1; omega), by omega, Hend.out.1, Hend.out.2⟩, by simp [intOf]; omega⟩
            · skip
              have d1 : decide (((dg + t : Nat) : Int) < 15) = false := decide_eq_false (by omega)
              have ht : t = 15 - dg := by omega
              subst ht
              obtain ⟨X, hX⟩ : ∃ X, X = stS x (15 - dg) := ⟨_, rfl⟩
              rw [← hX] at HXi Hek
              clear hX
              have hxr : Rd wr 1 (some ⟨X20, 0, none⟩) 32 (sumC X) := by
                have := HXi.out.rd (by rw [sumC_len]; omega)
                rwa [sumC_len] at this
              have Hxr := Lib.hid hxr
              have Happ2 := Lib.hid (Happ.out.below HBi.out (Nat.le_refl _))
              have hszi : v201.heap.size ≤ wr.heap.size := Nat.le_trans hszr HBi.out.size
              have HBy := Lib.hid (HBr.out.trans (HBi.out.mono hszr))
              clear hxr HXi HBi Happ
              go_wp2_with (at_builtin; refine wpList_app rfl (.tmp 140) (.tmp 141) 22 rfl 5 i0 (.int .u8 0) 1 Tryd.underlying22 hi0 hz0 hz1 hz2 rfl v201.heap.size hszi _ _ _ rfl Happ2.out (some ⟨X20, 0, none⟩) 32 32 (sumC X) rfl Hxr.out (oneB _) (by unfold maxLen; omega) (by omega) ?_; intro v6 w6 happ6 hb6)
              have hb7 := HBy.out.trans hb6
              exact ⟨⟨kk + 1, by go_num, by omega, by rw [Hek.out, List.map_append]; exact happ6, hb7⟩, by simp [intOf]; omega⟩
        · skip
          replace HB := Lib.hid (SHB.out.trans (HBr.out.mono SHB.out.size))
          replace Hg := Lib.hid (SHg.out.below HBr.out)
          replace Hb := Lib.hid (SHb.out.below HBr.out)
          replace HBX11 := Lib.hid (SHBX11.out.below HBr.out SHBX11.out.lt)
          replace HC5 := Lib.hid (SHC5.out.below HBr.out)
          replace HD5 := Lib.hid (SHD5.out.below HBr.out)
          replace HBX13 := Lib.hid (SHBX13.out.below HBr.out SHBX13.out.lt)
          replace HBX14 := Lib.hid (SHBX14.out.below HBr.out SHBX14.out.lt)
          replace Hdg := Lib.hid (SHdg.out.below HBr.out)
          have d0 : decide ((kk : Int) < 67) = false := decide_eq_false (by omega)
          have he : kk = 67 := by omega
          subst he
          obtain ⟨A18, c18, rfl, hc18, hR⟩ := Happ.out.rd
          have HR := Lib.hid hR
          clear hR hlt Happ
          go_upto_region 30 with fail
          have hsh : IntKind.i64.wrap (2 ^ m5) = ((2 ^ m5 : Nat) : Int) := by rcases (show m5 = 0 ∨ m5 = 1 ∨ m5 = 2 ∨ m5 = 3 ∨ m5 = 4 by omega) with rfl | rfl | rfl | rfl | rfl <;> rfl
          obtain ⟨ES, hES⟩ : ∃ ES, ES = endK (digS B) ch5 67 := ⟨_, rfl⟩
          rw [← hES] at HR HVer
          clear hES
          obtain ⟨V, hV⟩ : ∃ V, V = verS P B ⟨(N5 : Int), ch5, pa5⟩ := ⟨_, rfl⟩
          rw [← hV] at HVer
          have HV1 := Lib.hid hV
          clear hV
          refine wp_region_flowF [143, 144, 145, 146, 147, 148, 149, 150, 151, 152, 153, 154, 155, 156, 157, 158, 159, 160, 161, 6] [(Spec.is (.bool true), false), (Spec.is (.bool true), false), (Spec.is (.agg (sumC P).toArray), false), (Spec.is (.slice A len' cap), false), (Spec.is (.agg (sgV (N5 : Int) (some ⟨cb, co, none⟩) 67 c5 D5 m5 d5).toArray), false), (Spec.is (.bool V), false), (Spec.is (.agg (sumC P).toArray), false), (Spec.is (.pointer (some ⟨X13, 2, none⟩)), false), (Spec.is (.slice D5 m5 d5), false), (Spec.is (.int .i64 (m5 : Int)), false), (Spec.is (.int .i64 ((2 ^ m5 : Nat) : Int)), false), (Spec.is (.pointer (some ⟨X13, 0, none⟩)), false), (Spec.is (.int .i64 (N5 : Int)), false), (Spec.is (.slice A18 2144 c18), false), (Spec.is (.pointer (some ⟨X13, 2, none⟩)), false), (Spec.is (.slice D5 m5 d5), false), (Spec.is (.bool V), false), (Spec.is (.bool true), false), (Spec.is (.bool true), false), (Spec.is (.bool true), false)] 162 (by kernel_rfl) rfl (by decide) rfl (by decide) (by kernel_rfl) ?_ ?_
          · refine ⟨?_, ?_, ?_, ?_, ?_, ?_, ?_, ?_, ?_, ?_, ?_, ?_, ?_, ?_, ?_, ?_, ?_, ?_, ?_, ?_, trivial⟩
            · intro a W hE hb hs
              have h7 : a.eval (.tmp 7) = .bool true := hb 7 (by decide)
              refine flow0 rfl ?_
              exact val_move _ rfl _ h7 ⟨rfl, trivial⟩
            · intro a W hE hb hs
              have h143 : a.eval (.tmp 143) = .bool true := hs 0 (by decide)
              refine flow0 rfl ?_
              exact val_move _ rfl _ h143 ⟨rfl, trivial⟩
            · intro a W hE hb hs
              have h11 : a.eval (.tmp 11) = .pointer (some ⟨X11, 0, none⟩) := hb 11 (by decide)
              have h144 : a.eval (.tmp 144) = .bool true := hs 1 (by decide)
              refine flowY rfl rfl h144 ?_
              exact val_load_row 26 _ rfl X11 0 h11 (sumC P) _ (Blk.range (HBX11.out.below (ext_below hE) HBX11.out.lt)) und32 rfl (by rw [sumC_len]; kernel_rfl) ⟨rfl, trivial⟩
            · intro a W hE hb hs
              have h9 : a.eval (.tmp 9) = .slice A len' cap := hb 9 (by decide)
              have h144 : a.eval (.tmp 144) = .bool true := hs 1 (by decide)
              refine flowY rfl rfl h144 ?_
              exact val_move _ rfl _ h9 ⟨rfl, trivial⟩
            · intro a W hE hb hs
              have h13 : a.eval (.tmp 13) = .pointer (some ⟨X13, 0, none⟩) := hb 13 (by decide)
              have h144 : a.eval (.tmp 144) = .bool true := hs 1 (by decide)
              refine flowY rfl rfl h144 ?_
              exact val_load_row 37 _ rfl X13 0 h13 (sgV (N5 : Int) (some ⟨cb, co, none⟩) 67 c5 D5 m5 d5) d37 (Blk.range (HBX13.out.below (ext_below hE) HBX13.out.lt)) hd37 hrow37 (by rw [sgV_len]; kernel_rfl) ⟨rfl, trivial⟩
            · intro a W hE hb hs
              have h145 : a.eval (.tmp 145) = .agg (sumC P).toArray := hs 2 (by decide)
              have h146 : a.eval (.tmp 146) = .slice A len' cap := hs 3 (by decide)
              have h147 : a.eval (.tmp 147) = .agg (sgV (N5 : Int) (some ⟨cb, co, none⟩) 67 c5 D5 m5 d5).toArray := hs 4 (by decide)
              have h144 : a.eval (.tmp 144) = .bool true := hs 1 (by decide)
              refine flowY rfl rfl h144 ?_
              exact val_call 19 _ _ rfl (by kernel_rfl) [.agg (sumC P).toArray, .slice A len' cap, .agg (sgV (N5 : Int) (some ⟨cb, co, none⟩) 67 c5 D5 m5 d5).toArray] (by show [a.eval (.tmp 145), a.eval (.tmp 146), a.eval (.tmp 147)] = _; rw [h145, h146, h147]) ((Verify_any P A len' cap B (N5 : Int) (some ⟨cb, co, none⟩) D5 67 c5 m5 d5 ch5 pa5 W (Hg.out.below (ext_below hE)) (Hb.out.below (ext_below hE)) (by omega) (HC5.out.below (ext_below hE)).1 (HD5.out.below (ext_below hE)).1 hmd5).mono (by rw [← HV1.out]; rintro e W' ⟨rfl, hb⟩; exact ⟨_, rfl, hb, rfl, trivial⟩))
            · intro a W hE hb hs
              have h11 : a.eval (.tmp 11) = .pointer (some ⟨X11, 0, none⟩) := hb 11 (by decide)
              have h144 : a.eval (.tmp 144) = .bool true := hs 1 (by decide)
              refine flowY rfl rfl h144 ?_
              exact val_load_row 26 _ rfl X11 0 h11 (sumC P) _ (Blk.range (HBX11.out.below (ext_below hE) HBX11.out.lt)) und32 rfl (by rw [sumC_len]; kernel_rfl) ⟨rfl, trivial⟩
            · intro a W hE hb hs
              have h13 : a.eval (.tmp 13) = .pointer (some ⟨X13, 0, none⟩) := hb 13 (by decide)
              have h144 : a.eval (.tmp 144) = .bool true := hs 1 (by decide)
              refine flowY rfl rfl h144 ?_
              intro K hK
              unfold Oper.wp execOp
              simp only [h13, BigFrame.eval_const]
              simp [go_sem]
              exact hK _ _ ⟨Below.refl _ _, rfl, trivial⟩
            · intro a W hE hb hs
              have h150 : a.eval (.tmp 150) = .pointer (some ⟨X13, 2, none⟩) := hs 7 (by decide)
              have h144 : a.eval (.tmp 144) = .bool true := hs 1 (by decide)
              refine flowY rfl rfl h144 ?_
              have g0 : W.cell? ⟨X13, 2, none⟩ = some (.slice D5 m5 d5) := by rw [(HBX13.out.below (ext_below hE) HBX13.out.lt).cell]; rfl
              intro K hK
              unfold Oper.wp execOp
              simp only [h150, BigFrame.eval_const]
              simp [go_sem, g0]
              exact hK _ _ ⟨Below.refl _ _, rfl, trivial⟩
            · intro a W hE hb hs
              have h151 : a.eval (.tmp 151) = .slice D5 m5 d5 := hs 8 (by decide)
              have h144 : a.eval (.tmp 144) = .bool true := hs 1 (by decide)
              refine flowY rfl rfl h144 ?_
              exact val_len _ 35 26 rfl undSS _ _ _ h151 ⟨rfl, trivial⟩
            · intro a W hE hb hs
              have h152 : a.eval (.tmp 152) = .int .i64 (m5 : Int) := hs 9 (by decide)
              have h144 : a.eval (.tmp 144) = .bool true := hs 1 (by decide)
              refine flowY rfl rfl h144 ?_
              intro K hK
              unfold Oper.wp execOp
              simp only [h152, BigFrame.eval_const]
              simp [go_sem, hsh]
              exact hK _ _ ⟨Below.refl _ _, rfl, trivial⟩
            · intro a W hE hb hs
              have h13 : a.eval (.tmp 13) = .pointer (some ⟨X13, 0, none⟩) := hb 13 (by decide)
              have h144 : a.eval (.tmp 144) = .bool true := hs 1 (by decide)
              refine flowY rfl rfl h144 ?_
              intro K hK
              unfold Oper.wp execOp
              simp only [h13, BigFrame.eval_const]
              simp [go_sem]
              exact hK _ _ ⟨Below.refl _ _, rfl, trivial⟩
            · intro a W hE hb hs
              have h154 : a.eval (.tmp 154) = .pointer (some ⟨X13, 0, none⟩) := hs 11 (by decide)
              have h144 : a.eval (.tmp 144) = .bool true := hs 1 (by decide)
              refine flowY rfl rfl h144 ?_
              have g0 : W.cell? ⟨X13, 0, none⟩ = some (.int .i64 (N5 : Int)) := by rw [(HBX13.out.below (ext_below hE) HBX13.out.lt).cell]; rfl
              intro K hK
              unfold Oper.wp execOp
              simp only [h154, BigFrame.eval_const]
              simp [go_sem, g0]
              exact hK _ _ ⟨Below.refl _ _, rfl, trivial⟩
            · intro a W hE hb hs
              have h18 : a.eval (.tmp 18) = .slice A18 2144 c18 := hb 18 (by decide)
              have h144 : a.eval (.tmp 144) = .bool true := hs 1 (by decide)
              refine flowY rfl rfl h144 ?_
              exact val_move _ rfl _ h18 ⟨rfl, trivial⟩
            · intro a W hE hb hs
              have h13 : a.eval (.tmp 13) = .pointer (some ⟨X13, 0, none⟩) := hb 13 (by decide)
              have h144 : a.eval (.tmp 144) = .bool true := hs 1 (by decide)
              refine flowY rfl rfl h144 ?_
              intro K hK
              unfold Oper.wp execOp
              simp only [h13, BigFrame.eval_const]
              simp [go_sem]
              exact hK _ _ ⟨Below.refl _ _, rfl, trivial⟩
            · intro a W hE hb hs
              have h157 : a.eval (.tmp 157) = .pointer (some ⟨X13, 2, none⟩) := hs 14 (by decide)
              have h144 : a.eval (.tmp 144) = .bool true := hs 1 (by decide)
              refine flowY rfl rfl h144 ?_
              have g0 : W.cell? ⟨X13, 2, none⟩ = some (.slice D5 m5 d5) := by rw [(HBX13.out.below (ext_below hE) HBX13.out.lt).cell]; rfl
              intro K hK
              unfold Oper.wp execOp
              simp only [h157, BigFrame.eval_const]
              simp [go_sem, g0]
              exact hK _ _ ⟨Below.refl _ _, rfl, trivial⟩
            · intro a W hE hb hs
              have h149 : a.eval (.tmp 149) = .agg (sumC P).toArray := hs 6 (by decide)
              have h153 : a.eval (.tmp 153) = .int .i64 ((2 ^ m5 : Nat) : Int) := hs 10 (by decide)
              have h155 : a.eval (.tmp 155) = .int .i64 (N5 : Int) := hs 12 (by decide)
              have h156 : a.eval (.tmp 156) = .slice A18 2144 c18 := hs 13 (by decide)
              have h158 : a.eval (.tmp 158) = .slice D5 m5 d5 := hs 15 (by decide)
              have h144 : a.eval (.tmp 144) = .bool true := hs 1 (by decide)
              refine flowY rfl rfl h144 ?_
              exact val_call 24 _ _ rfl (by kernel_rfl) [.agg (sumC P).toArray, .int .i64 ((2 ^ m5 : Nat) : Int), .int .i64 (N5 : Int), .slice A18 2144 c18, .slice D5 m5 d5] (by show [a.eval (.tmp 149), a.eval (.tmp 153), a.eval (.tmp 155), a.eval (.tmp 156), a.eval (.tmp 158)] = _; rw [h149, h153, h155, h156, h158]) ((Check_any P (2 ^ m5) N5 A18 D5 2144 c18 m5 d5 ES pa5 HN5.out H16.out W (Hg.out.below (ext_below hE)) (HR.out.below (ext_below hE)) (by omega) (HD5.out.below (ext_below hE)).1 hmd5).mono (by rw [← HVer.out]; rintro e W' ⟨rfl, hb⟩; exact ⟨_, rfl, hb, rfl, trivial⟩))
            · intro a W hE hb hs
              have h148 : a.eval (.tmp 148) = .bool V := hs 5 (by decide)
              have h159 : a.eval (.tmp 159) = .bool V := hs 16 (by decide)
              have h144 : a.eval (.tmp 144) = .bool true := hs 1 (by decide)
              refine flowY rfl rfl h144 ?_
              intro K hK
              unfold Oper.wp execOp
              simp only [h148, h159, BigFrame.eval_const]
              simp [go_sem]
              exact hK _ _ ⟨Below.refl _ _, rfl, trivial⟩
            · intro a W hE hb hs
              have h144 : a.eval (.tmp 144) = .bool true := hs 1 (by decide)
              have h160 : a.eval (.tmp 160) = .bool true := hs 17 (by decide)
              refine flow0 rfl ?_
              exact val_pick _ _ _ rfl true h144 _ (by rw [if_pos rfl]; exact h160) ⟨rfl, trivial⟩
            · intro a W hE hb hs
              have h161 : a.eval (.tmp 161) = .bool true := hs 18 (by decide)
              refine flow0 rfl ?_
              exact val_assign _ rfl _ h161 ⟨rfl, trivial⟩
          intro f W hb hT hp hd
          have e6 : f 6 = .bool true := hT 19 (by decide)
          simp only [putV, List.foldl_cons, List.foldl_nil, Act.put, List.setIfInBounds_toArray, List.set_cons_succ, List.set_cons_zero, Exit.then]
          rw [e6]
          have HE := Lib.hid (HB.out.trans (hb.mono HB.out.size))
          clear hb hT hp hd e6
          go_wp2_with fail
          go_ret
          exact ⟨rfl, HE.out⟩
end Go.Proofs.YtfdhiilhjfbehaaDoor
