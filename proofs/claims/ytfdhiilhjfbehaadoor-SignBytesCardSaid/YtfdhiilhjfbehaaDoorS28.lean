/- SignMatchesReference. -/
import Derived.Test.YtfdhiilhjfbehaaDoorS27
namespace Go.Proofs.YtfdhiilhjfbehaaDoor
open Go.RowKit Go.Sort

theorem oneB1 {bs : List UInt8} : ∀ u ∈ bs.map byteV, u.oneCell' = true := fun u hu => by
  obtain ⟨b, _, rfl⟩ := List.mem_map.1 hu
  rfl

set_option maxRecDepth 100000 in
set_option maxHeartbeats 4000000 in
theorem SignMatches_any (As : Option Addr) (ls cs : Nat) (bs : List UInt8) (b0 b1 b2 b3 b4 : UInt8) (A : Option Addr) (len cap : Nat) (bs2 : List UInt8) (w : World) (hg : Globs w) (hrs : Rd w 1 As ls (bs.map byteV)) (hr : Rd w 1 A len (bs2.map byteV)) (hlc : len ≤ cap) :
    Calls Tryd.prog 3 #[.slice As ls cs, .agg #[byteV b0, byteV b1, byteV b2, byteV b3, byteV b4], .slice A len cap] w fun e w' => e = .returned (.bool true) ∧ Below w.heap.size w w' := by
  obtain ⟨i32, hi32, hz32, hs32, hy32⟩ := info_parts info32
  obtain ⟨i37, hi37, hz37, _, _⟩ := info_parts info37
  obtain ⟨i28, hi28, hz28, _, _⟩ := info_parts info28
  obtain ⟨i39, hi39, hz39, _, _⟩ := info_parts info39
  obtain ⟨d28, hd28, hrow28⟩ := und28
  obtain ⟨d37, hd37, hrow37⟩ := und37
  obtain ⟨d39, hd39, hrow39⟩ := und39
  unfold byteV
  go_enter Tryd.func3, Tryd.ntmps3
  go_upto_region 1 with fail
  obtain ⟨w1, hw1⟩ : ∃ v, v = w.alloc (.cells #[.int .u8 (b0.toNat : Int), .int .u8 (b1.toNat : Int), .int .u8 (b2.toNat : Int), .int .u8 (b3.toNat : Int), .int .u8 (b4.toNat : Int)] 23) := ⟨_, rfl⟩
  have hB1 : Below w.heap.size w w1 := by rw [hw1]; exact (Below.refl _ _).alloc (Nat.le_refl _) _
  have hX1 : Blk w1 w.heap.size 23 #[.int .u8 (b0.toNat : Int), .int .u8 (b1.toNat : Int), .int .u8 (b2.toNat : Int), .int .u8 (b3.toNat : Int), .int .u8 (b4.toNat : Int)] := by rw [hw1]; exact Blk.new _ _ _
  rw [← hw1]
  clear hw1
  have HB := Lib.hid hB1
  have HW := Lib.hid hX1
  have Hg := Lib.hid (hg.below hB1)
  have Hg0 := Lib.hid hg
  have Hr0 := Lib.hid hr
  have Hs := Lib.hid (hrs.below hB1)
  have Hr := Lib.hid (hr.below hB1)
  clear hB1 hX1 hg hrs hr
  go_upto_region 2 with fail
  refine (sanity_any w1 Hg.out).mono ?_
  rintro e v1 ⟨rfl, hb_⟩
  replace HB := Lib.hid (HB.out.trans (hb_.mono HB.out.size))
  replace HW := Lib.hid (HW.out.below hb_ HW.out.lt)
  replace Hg := Lib.hid (Hg.out.below hb_)
  replace Hs := Lib.hid (Hs.out.below hb_)
  replace Hr := Lib.hid (Hr.out.below hb_)
  clear hb_
  have cx0 : v1.cell? ⟨w.heap.size, 0, none⟩ = some (.int .u8 (b0.toNat : Int)) := by rw [HW.out.cell]; rfl
  have cx1 : v1.cell? ⟨w.heap.size, 1, none⟩ = some (.int .u8 (b1.toNat : Int)) := by rw [HW.out.cell]; rfl
  go_upto_region 3 with fail
  refine (Secret_any As ls cs bs b0 b1 v1 Hs.out).mono ?_
  rintro e v2 ⟨rfl, hb_⟩
  replace HB := Lib.hid (HB.out.trans (hb_.mono HB.out.size))
  replace HW := Lib.hid (HW.out.below hb_ HW.out.lt)
  replace Hg := Lib.hid (Hg.out.below hb_)
  replace Hs := Lib.hid (Hs.out.below hb_)
  replace Hr := Lib.hid (Hr.out.below hb_)
  clear hb_
  clear cx0 cx1
  obtain ⟨k, hk⟩ : ∃ k, k = secS bs b0 b1 := ⟨_, rfl⟩
  rw [← hk]
  obtain ⟨H, N, e1, hH, e3, hN, hv⟩ := secS_valid bs b0 b1
  rw [← hk] at e1 e3 hv
  have E1 := Lib.hid e1
  have E3 := Lib.hid e3
  have HV := Lib.hid hv
  clear hk e1 e3 hv
  clear Hs
  obtain ⟨v3a, hv3a⟩ : ∃ v, v = (v2.alloc (.cells (secV sc0).toArray 28)) := ⟨_, rfl⟩
  obtain ⟨X8, hX8⟩ : ∃ v, v = v2.heap.size := ⟨_, rfl⟩
  have hNX8 : Blk (v2.alloc (.cells (secV sc0).toArray 28)) X8 28 (secV sc0).toArray := by
    have := Blk.new v2 28 (secV sc0).toArray
    skip
    rw [hX8]; exact this
  rw [← hv3a] at hNX8
  have hbA : Below v2.heap.size v2 v3a := by
    rw [hv3a]; exact (Below.refl _ _).alloc (by simp) _
  have HNX8 := Lib.hid hNX8
  have hkX8 := (KeptIn.refl (fun b => b ≠ X8) v3a).setRow (g := X8) (fun h => h rfl) (secV k).toArray
  replace hNX8 : Blk (v3a.setRow X8 (secV k).toArray) X8 28 (secV k).toArray := setRow_heap _ _ _ _ _ _ HNX8.out
  obtain ⟨v3, hv3⟩ : ∃ v, v = (v3a.setRow X8 (secV k).toArray) := ⟨_, rfl⟩
  have hbB : Below v2.heap.size v2 v3 := by rw [hv3]; exact (Below.setRow hbA (show v2.heap.size ≤ X8 by omega) _)
  rw [← hv3] at hNX8
  have HBX8 := Lib.hid hNX8
  have Hv3a := Lib.hid hv3a
  have Hv3 := Lib.hid hv3
  have HEX8 := Lib.hid hX8
  clear hNX8 hkX8 hv3a hv3 hbA
  have hlX8 : w.heap.size ≤ X8 := by have := HB.out.size; omega
  have hoX8 : w.heap.size < X8 := by have := HW.out.lt; omega
  clear hX8
  go_upto_region 3 with (first | (refine wpList_alloc0 rfl 28 rfl (secV sc0).toArray _ i28 hi28 hz28 rfl ?_; simp only [Act.put, List.setIfInBounds_toArray, List.set_cons_succ, List.set_cons_zero]; try simp only [World.size_alloc]) | (rw [← Hv3a.out, ← HEX8.out]; refine wpList_store_row rfl 28 (.tmp 8) (.tmp 24) rfl X8 (secV k).toArray rfl rfl 28 _ HNX8.out (size28 _ (sec_size _)) ((sec_size _).trans (sec_size _).symm) (sec_one _) ?_; rw [← Hv3.out]))
  replace HB := Lib.hid (HB.out.trans (hbB.mono HB.out.size))
  replace HW := Lib.hid (HW.out.below hbB HW.out.lt)
  replace Hg := Lib.hid (Hg.out.below hbB)
  replace Hr := Lib.hid (Hr.out.below hbB)
  clear hbB
  clear HNX8 HEX8 Hv3a Hv3
  go_upto_region 4 with fail
  refine (Limited_any A len cap 100 bs2 v3 Hr.out hlc (by omega)).mono ?_
  rintro e v4 ⟨⟨len', rfl, hl1, hl2, hr'⟩, hw'⟩
  subst hw'
  obtain ⟨B, hB⟩ : ∃ B, B = bs2.take 100 := ⟨_, rfl⟩
  rw [← hB] at hr'
  have Hb := Lib.hid hr'
  have HBl := Lib.hid (show len' ≤ bs2.length by have := hr'.len1; rw [hB, List.length_take] at this; omega)
  clear hr' hB
  clear Hr
  have Hk := Lib.hid (Blk.range HBX8.out)
  have hp := pub_ok HV.out
  go_upto_region 5 with (refine wpList_load_mid rfl 28 (.tmp 8) rfl X8 0 rfl (secV k) d28 Hk.out hd28 hrow28 (by rw [secV_len]; kernel_rfl) ?_)
  refine (Public_any k v4 Hg.out).mono ?_
  rintro e v5 ⟨rfl, hb_⟩
  replace HB := Lib.hid (HB.out.trans (hb_.mono HB.out.size))
  replace HW := Lib.hid (HW.out.below hb_ HW.out.lt)
  replace Hg := Lib.hid (Hg.out.below hb_)
  replace HBX8 := Lib.hid (HBX8.out.below hb_ HBX8.out.lt)
  replace Hb := Lib.hid (Hb.out.below hb_)
  clear hb_
  rw [hp]
  clear Hk
  obtain ⟨P, hP⟩ : ∃ P, P = (pubS k).1 := ⟨_, rfl⟩
  rw [← hP]
  have HP := Lib.hid hP
  clear hP
  obtain ⟨v6a, hv6a⟩ : ∃ v, v = (v5.alloc (.cells zero32 26)) := ⟨_, rfl⟩
  obtain ⟨X10, hX10⟩ : ∃ v, v = v5.heap.size := ⟨_, rfl⟩
  have hNX10 : Blk (v5.alloc (.cells zero32 26)) X10 26 zero32 := by
    have := Blk.new v5 26 zero32
    skip
    rw [hX10]; exact this
  rw [← hv6a] at hNX10
  have hbA : Below v5.heap.size v5 v6a := by
    rw [hv6a]; exact (Below.refl _ _).alloc (by simp) _
  have HNX10 := Lib.hid hNX10
  have hkX10 := (KeptIn.refl (fun b => b ≠ X10) v6a).setRow (g := X10) (fun h => h rfl) (sumC P).toArray
  replace hNX10 : Blk (v6a.setRow X10 (sumC P).toArray) X10 26 (sumC P).toArray := setRow_heap _ _ _ _ _ _ HNX10.out
  obtain ⟨v6, hv6⟩ : ∃ v, v = (v6a.setRow X10 (sumC P).toArray) := ⟨_, rfl⟩
  have hbB : Below v5.heap.size v5 v6 := by rw [hv6]; exact (Below.setRow hbA (show v5.heap.size ≤ X10 by omega) _)
  rw [← hv6] at hNX10
  have HBX10 := Lib.hid hNX10
  have Hv6a := Lib.hid hv6a
  have Hv6 := Lib.hid hv6
  have HEX10 := Lib.hid hX10
  clear hNX10 hkX10 hv6a hv6 hbA
  have hlX10 : w.heap.size ≤ X10 := by have := HB.out.size; omega
  have hoX10 : w.heap.size < X10 := by have := HW.out.lt; omega
  have hoX8X10 : X8 < X10 := by have := HBX8.out.lt; omega
  clear hX10
  go_upto_region 5 with (first | (refine wpList_alloc0 rfl 26 rfl zero32 _ i32 hi32 hz32 rfl ?_; simp only [Act.put, List.setIfInBounds_toArray, List.set_cons_succ, List.set_cons_zero]; try simp only [World.size_alloc]) | (rw [← Hv6a.out, ← HEX10.out]; refine wpList_store_row rfl 26 (.tmp 10) (.tmp 30) rfl X10 (sumC P).toArray rfl rfl 26 _ HNX10.out (size32 _ (sum_size _)) ((zero32_size).trans (sum_size _).symm) (all_oneCell_toArray (oneB _)) ?_; rw [← Hv6.out]))
  replace HB := Lib.hid (HB.out.trans (hbB.mono HB.out.size))
  replace HW := Lib.hid (HW.out.below hbB HW.out.lt)
  replace Hg := Lib.hid (Hg.out.below hbB)
  replace HBX8 := Lib.hid (HBX8.out.below hbB HBX8.out.lt)
  replace Hb := Lib.hid (Hb.out.below hbB)
  clear hbB
  clear HNX10 HEX10 Hv6a Hv6
  have Hk := Lib.hid (Blk.range HBX8.out)
  go_upto_region 6 with (refine wpList_load_mid rfl 28 (.tmp 8) rfl X8 0 rfl (secV k) d28 Hk.out hd28 hrow28 (by rw [secV_len]; kernel_rfl) ?_)
  refine (RPublic_any k v6).mono ?_
  rintro e v7 ⟨rfl, hb_⟩
  replace HB := Lib.hid (HB.out.trans (hb_.mono HB.out.size))
  replace HW := Lib.hid (HW.out.below hb_ HW.out.lt)
  replace Hg := Lib.hid (Hg.out.below hb_)
  replace HBX8 := Lib.hid (HBX8.out.below hb_ HBX8.out.lt)
  replace Hb := Lib.hid (Hb.out.below hb_)
  replace HBX10 := Lib.hid (HBX10.out.below hb_ HBX10.out.lt)
  clear hb_
  rw [hp, ← HP.out]
  clear Hk hp
  obtain ⟨v8a, hv8a⟩ : ∃ v, v = (v7.alloc (.cells zero32 26)) := ⟨_, rfl⟩
  obtain ⟨X12, hX12⟩ : ∃ v, v = v7.heap.size := ⟨_, rfl⟩
  have hNX12 : Blk (v7.alloc (.cells zero32 26)) X12 26 zero32 := by
    have := Blk.new v7 26 zero32
    skip
    rw [hX12]; exact this
  rw [← hv8a] at hNX12
  have hbA : Below v7.heap.size v7 v8a := by
    rw [hv8a]; exact (Below.refl _ _).alloc (by simp) _
  have HNX12 := Lib.hid hNX12
  have hkX12 := (KeptIn.refl (fun b => b ≠ X12) v8a).setRow (g := X12) (fun h => h rfl) (sumC P).toArray
  replace hNX12 : Blk (v8a.setRow X12 (sumC P).toArray) X12 26 (sumC P).toArray := setRow_heap _ _ _ _ _ _ HNX12.out
  obtain ⟨v8, hv8⟩ : ∃ v, v = (v8a.setRow X12 (sumC P).toArray) := ⟨_, rfl⟩
  have hbB : Below v7.heap.size v7 v8 := by rw [hv8]; exact (Below.setRow hbA (show v7.heap.size ≤ X12 by omega) _)
  rw [← hv8] at hNX12
  have HBX12 := Lib.hid hNX12
  have Hv8a := Lib.hid hv8a
  have Hv8 := Lib.hid hv8
  have HEX12 := Lib.hid hX12
  clear hNX12 hkX12 hv8a hv8 hbA
  have hlX12 : w.heap.size ≤ X12 := by have := HB.out.size; omega
  have hoX12 : w.heap.size < X12 := by have := HW.out.lt; omega
  have hoX8X12 : X8 < X12 := by have := HBX8.out.lt; omega
  have hoX10X12 : X10 < X12 := by have := HBX10.out.lt; omega
  clear hX12
  go_upto_region 6 with (first | (refine wpList_alloc0 rfl 26 rfl zero32 _ i32 hi32 hz32 rfl ?_; simp only [Act.put, List.setIfInBounds_toArray, List.set_cons_succ, List.set_cons_zero]; try simp only [World.size_alloc]) | (rw [← Hv8a.out, ← HEX12.out]; refine wpList_store_row rfl 26 (.tmp 12) (.tmp 35) rfl X12 (sumC P).toArray rfl rfl 26 _ HNX12.out (size32 _ (sum_size _)) ((zero32_size).trans (sum_size _).symm) (all_oneCell_toArray (oneB _)) ?_; rw [← Hv8.out]))
  replace HB := Lib.hid (HB.out.trans (hbB.mono HB.out.size))
  replace HW := Lib.hid (HW.out.below hbB HW.out.lt)
  replace Hg := Lib.hid (Hg.out.below hbB)
  replace HBX8 := Lib.hid (HBX8.out.below hbB HBX8.out.lt)
  replace Hb := Lib.hid (Hb.out.below hbB)
  replace HBX10 := Lib.hid (HBX10.out.below hbB HBX10.out.lt)
  clear hbB
  clear HNX12 HEX12 Hv8a Hv8
  have Hk := Lib.hid (Blk.range HBX8.out)
  go_upto_region 7 with (refine wpList_load_mid rfl 28 (.tmp 8) rfl X8 0 rfl (secV k) d28 Hk.out hd28 hrow28 (by rw [secV_len]; kernel_rfl) ?_)
  obtain ⟨S, hS⟩ : ∃ S, S = signS k B := ⟨_, rfl⟩
  have hmade := RSign_any k A len' cap B v8 Hb.out (by omega)
  rw [← hS] at hmade
  have HS := Lib.hid hS
  have Hmade := Lib.hid hmade
  have hsl := sign_lens k B HV.out
  rw [← hS] at hsl
  clear hmade hS Hk
  refine (Hmade.out).mono ?_
  rintro e v9 ⟨⟨C, n, c, D, m, d, rfl, hnc, hmd, hC, hD⟩, hb_⟩
  replace HB := Lib.hid (HB.out.trans (hb_.mono HB.out.size))
  replace HW := Lib.hid (HW.out.below hb_ HW.out.lt)
  replace Hg := Lib.hid (Hg.out.below hb_)
  replace HBX8 := Lib.hid (HBX8.out.below hb_ HBX8.out.lt)
  replace Hb := Lib.hid (Hb.out.below hb_)
  replace HBX10 := Lib.hid (HBX10.out.below hb_ HBX10.out.lt)
  replace HBX12 := Lib.hid (HBX12.out.below hb_ HBX12.out.lt)
  clear hb_
  have qn := hC.1.lenf sumC_len (by omega)
  have qm := hD.1.lenf sumC_len (by omega)
  have HC := Lib.hid hC
  have HD := Lib.hid hD
  clear hC hD Hmade
  obtain ⟨v10a, hv10a⟩ : ∃ v, v = (v9.alloc (.cells (sgnV 0 none 0 0 none 0 0 sc0 0).toArray 39)) := ⟨_, rfl⟩
  obtain ⟨X14, hX14⟩ : ∃ v, v = v9.heap.size := ⟨_, rfl⟩
  have hNX14 : Blk (v9.alloc (.cells (sgnV 0 none 0 0 none 0 0 sc0 0).toArray 39)) X14 39 (sgnV 0 none 0 0 none 0 0 sc0 0).toArray := by
    have := Blk.new v9 39 (sgnV 0 none 0 0 none 0 0 sc0 0).toArray
    skip
    rw [hX14]; exact this
  rw [← hv10a] at hNX14
  have hbA : Below v9.heap.size v9 v10a := by
    rw [hv10a]; exact (Below.refl _ _).alloc (by simp) _
  have HNX14 := Lib.hid hNX14
  have hkX14 := (KeptIn.refl (fun b => b ≠ X14) v10a).setRow (g := X14) (fun h => h rfl) (sgnV S.1.i C n c D m d S.2.1 S.2.2).toArray
  replace hNX14 : Blk (v10a.setRow X14 (sgnV S.1.i C n c D m d S.2.1 S.2.2).toArray) X14 39 (sgnV S.1.i C n c D m d S.2.1 S.2.2).toArray := setRow_heap _ _ _ _ _ _ HNX14.out
  obtain ⟨v10, hv10⟩ : ∃ v, v = (v10a.setRow X14 (sgnV S.1.i C n c D m d S.2.1 S.2.2).toArray) := ⟨_, rfl⟩
  have hbB : Below v9.heap.size v9 v10 := by rw [hv10]; exact (Below.setRow hbA (show v9.heap.size ≤ X14 by omega) _)
  rw [← hv10] at hNX14
  have HBX14 := Lib.hid hNX14
  have Hv10a := Lib.hid hv10a
  have Hv10 := Lib.hid hv10
  have HEX14 := Lib.hid hX14
  clear hNX14 hkX14 hv10a hv10 hbA
  have hlX14 : w.heap.size ≤ X14 := by have := HB.out.size; omega
  have hoX14 : w.heap.size < X14 := by have := HW.out.lt; omega
  have hoX8X14 : X8 < X14 := by have := HBX8.out.lt; omega
  have hoX10X14 : X10 < X14 := by have := HBX10.out.lt; omega
  have hoX12X14 : X12 < X14 := by have := HBX12.out.lt; omega
  clear hX14
  go_upto_region 7 with (first | (refine wpList_alloc0 rfl 39 rfl (sgnV 0 none 0 0 none 0 0 sc0 0).toArray _ i39 hi39 hz39 rfl ?_; simp only [Act.put, List.setIfInBounds_toArray, List.set_cons_succ, List.set_cons_zero]; try simp only [World.size_alloc]) | (rw [← Hv10a.out, ← HEX14.out]; refine wpList_store_row rfl 39 (.tmp 14) (.tmp 39) rfl X14 (sgnV S.1.i C n c D m d S.2.1 S.2.2).toArray rfl rfl 39 _ HNX14.out (size39 _ (sgn_size _ _ _ _ _ _ _ _ _)) ((sgn_size _ _ _ _ _ _ _ _ _).trans (sgn_size _ _ _ _ _ _ _ _ _).symm) (sgn_one _ _ _ _ _ _ _ _ _) ?_; rw [← Hv10.out]))
  replace HB := Lib.hid (HB.out.trans (hbB.mono HB.out.size))
  replace HW := Lib.hid (HW.out.below hbB HW.out.lt)
  replace Hg := Lib.hid (Hg.out.below hbB)
  replace HBX8 := Lib.hid (HBX8.out.below hbB HBX8.out.lt)
  replace Hb := Lib.hid (Hb.out.below hbB)
  replace HBX10 := Lib.hid (HBX10.out.below hbB HBX10.out.lt)
  replace HBX12 := Lib.hid (HBX12.out.below hbB HBX12.out.lt)
  replace HC := Lib.hid (HC.out.below hbB)
  replace HD := Lib.hid (HD.out.below hbB)
  clear hbB
  clear HNX14 HEX14 Hv10a Hv10
  have hz1 := run_eql_sum P P
  rw [show decide (P = P) = true from decide_eq_true rfl] at hz1
  have hz2 := run_neq_sum P P
  rw [show decide (P = P) = true from decide_eq_true rfl] at hz2
  by_cases hNM : N = 2 ^ H
  · skip
    have Hst := Lib.hid (show S.2.2 = 160 by rw [HS.out, sign_used B HV.out E3.out E1.out hNM])
    refine wp_region_flowF [40, 41, 42, 43, 44, 45, 46, 47, 48, 49, 50, 51, 52, 53, 54, 55, 56, 57, 58, 59, 60] [(Spec.is (.agg (sumC P).toArray), false), (Spec.is (.agg (sumC P).toArray), false), (Spec.is (.bool false), false), (Spec.is (.bool false), false), (Spec.is (.int .i64 0), false), (Spec.is (.int .i64 0), false), (Spec.is (.bool false), false), (Spec.is (.bool false), false), (Spec.is (.bool false), false), (Spec.is (.agg (secV k).toArray), false), (Spec.is (.slice A len' cap), false), (spSgn S, false), (Spec.is (.agg (sgnV S.1.i C n c D m d S.2.1 S.2.2).toArray), false), (Spec.is (.bool true), false), (Spec.is (.bool false), false), (Spec.is (.bool false), false), (Spec.is (.bool false), false), (Spec.is (.pointer (some ⟨X14, 37, none⟩)), false), (Spec.is (.int .i64 160), false), (Spec.is (.bool true), false), (Spec.is (.bool true), false)] 136 (by kernel_rfl) rfl (by decide) rfl (by decide) (by kernel_rfl) ?_ ?_
    · refine ⟨?_, ?_, ?_, ?_, ?_, ?_, ?_, ?_, ?_, ?_, ?_, ?_, ?_, ?_, ?_, ?_, ?_, ?_, ?_, ?_, ?_, trivial⟩
      · intro a W hE hb hs
        have h10 : a.eval (.tmp 10) = .pointer (some ⟨X10, 0, none⟩) := hb 10 (by decide)
        refine flow0 rfl ?_
        exact val_load_row 26 _ rfl X10 0 h10 (sumC P) _ (Blk.range (HBX10.out.below (ext_below hE) HBX10.out.lt)) und32 rfl (by rw [sumC_len]; kernel_rfl) ⟨rfl, trivial⟩
      · intro a W hE hb hs
        have h12 : a.eval (.tmp 12) = .pointer (some ⟨X12, 0, none⟩) := hb 12 (by decide)
        refine flow0 rfl ?_
        exact val_load_row 26 _ rfl X12 0 h12 (sumC P) _ (Blk.range (HBX12.out.below (ext_below hE) HBX12.out.lt)) und32 rfl (by rw [sumC_len]; kernel_rfl) ⟨rfl, trivial⟩
      · intro a W hE hb hs
        have h40 : a.eval (.tmp 40) = .agg (sumC P).toArray := hs 0 (by decide)
        have h41 : a.eval (.tmp 41) = .agg (sumC P).toArray := hs 1 (by decide)
        refine flow0 rfl ?_
        intro K hK
        unfold Oper.wp execOp
        simp only [h40, h41]
        simp [go_sem, hz2]
        exact hK _ _ ⟨Below.refl _ _, rfl, trivial⟩
      · intro a W hE hb hs
        have h42 : a.eval (.tmp 42) = .bool false := hs 2 (by decide)
        refine flow0 rfl ?_
        exact val_move _ rfl _ h42 ⟨rfl, trivial⟩
      · intro a W hE hb hs
        have h11 : a.eval (.tmp 11) = .int .i64 0 := hb 11 (by decide)
        have h43 : a.eval (.tmp 43) = .bool false := hs 3 (by decide)
        refine flowY rfl rfl h43 ?_
        exact val_move _ rfl _ h11 ⟨rfl, trivial⟩
      · intro a W hE hb hs
        have h13 : a.eval (.tmp 13) = .int .i64 0 := hb 13 (by decide)
        have h43 : a.eval (.tmp 43) = .bool false := hs 3 (by decide)
        refine flowY rfl rfl h43 ?_
        exact val_move _ rfl _ h13 ⟨rfl, trivial⟩
      · intro a W hE hb hs
        have h44 : a.eval (.tmp 44) = .int .i64 0 := hs 4 (by decide)
        have h45 : a.eval (.tmp 45) = .int .i64 0 := hs 5 (by decide)
        have h43 : a.eval (.tmp 43) = .bool false := hs 3 (by decide)
        refine flowY rfl rfl h43 ?_
        intro K hK
        unfold Oper.wp execOp
        simp only [h44, h45]
        simp [go_sem]
        exact hK _ _ ⟨Below.refl _ _, rfl, trivial⟩
      · intro a W hE hb hs
        have h43 : a.eval (.tmp 43) = .bool false := hs 3 (by decide)
        have h46 : a.eval (.tmp 46) = .bool false := hs 6 (by decide)
        refine flow0 rfl ?_
        exact val_pick _ _ _ rfl false h43 _ (by rw [if_neg (by decide)]; exact h46) ⟨rfl, trivial⟩
      · intro a W hE hb hs
        have h47 : a.eval (.tmp 47) = .bool false := hs 7 (by decide)
        refine flow0 rfl ?_
        exact val_move _ rfl _ h47 ⟨rfl, trivial⟩
      · intro a W hE hb hs
        have h8 : a.eval (.tmp 8) = .pointer (some ⟨X8, 0, none⟩) := hb 8 (by decide)
        have h48 : a.eval (.tmp 48) = .bool false := hs 8 (by decide)
        refine flowY rfl rfl h48 ?_
        exact val_load_row 28 _ rfl X8 0 h8 (secV k) d28 (Blk.range (HBX8.out.below (ext_below hE) HBX8.out.lt)) hd28 hrow28 (by rw [secV_len]; kernel_rfl) ⟨rfl, trivial⟩
      · intro a W hE hb hs
        have h9 : a.eval (.tmp 9) = .slice A len' cap := hb 9 (by decide)
        have h48 : a.eval (.tmp 48) = .bool false := hs 8 (by decide)
        refine flowY rfl rfl h48 ?_
        exact val_move _ rfl _ h9 ⟨rfl, trivial⟩
      · intro a W hE hb hs
        have h49 : a.eval (.tmp 49) = .agg (secV k).toArray := hs 9 (by decide)
        have h50 : a.eval (.tmp 50) = .slice A len' cap := hs 10 (by decide)
        have h48 : a.eval (.tmp 48) = .bool false := hs 8 (by decide)
        refine flowY rfl rfl h48 ?_
        exact val_call 17 _ _ rfl (by kernel_rfl) [.agg (secV k).toArray, .slice A len' cap] (by show [a.eval (.tmp 49), a.eval (.tmp 50)] = _; rw [h49, h50]) ((made_any k A len' cap B W (Hg.out.below (ext_below hE)) (Hb.out.below (ext_below hE)) (by omega)).mono (by rw [← HS.out]; rintro e W' ⟨⟨C, n, c, D, m, d, rfl, _, _, hC, hD⟩, hb⟩; exact ⟨_, rfl, hb, ⟨C, n, c, D, m, d, rfl, hC, hD⟩, trivial⟩))
      · intro a W hE hb hs
        have h14 : a.eval (.tmp 14) = .pointer (some ⟨X14, 0, none⟩) := hb 14 (by decide)
        have h48 : a.eval (.tmp 48) = .bool false := hs 8 (by decide)
        refine flowY rfl rfl h48 ?_
        exact val_load_row 39 _ rfl X14 0 h14 (sgnV S.1.i C n c D m d S.2.1 S.2.2) d39 (Blk.range (HBX14.out.below (ext_below hE) HBX14.out.lt)) hd39 hrow39 (by rw [sgnV_len]; kernel_rfl) ⟨rfl, trivial⟩
      · intro a W hE hb hs
        have h51 : ∃ (C : Option Addr) (n c : Nat) (D : Option Addr) (m d : Nat), (a.eval (.tmp 51)) = .agg (sgnV S.1.i C n c D m d S.2.1 S.2.2).toArray ∧ TRd W 26 32 C n (S.1.ch.flatMap sumC) ∧ TRd W 26 32 D m (S.1.pa.flatMap sumC) := hs 11 (by decide)
        have h52 : a.eval (.tmp 52) = .agg (sgnV S.1.i C n c D m d S.2.1 S.2.2).toArray := hs 12 (by decide)
        have h48 : a.eval (.tmp 48) = .bool false := hs 8 (by decide)
        refine flowY rfl rfl h48 ?_
        obtain ⟨C', n', c', D', m', d', e51, hC', hD'⟩ := h51
        have q3 := hC'.1.lenf sumC_len (by omega)
        have q4 := hD'.1.lenf sumC_len (by omega)
        exact val_call 16 _ _ rfl (by kernel_rfl) [.agg (sgnV S.1.i C' n' c' D' m' d' S.2.1 S.2.2).toArray, .agg (sgnV S.1.i C n c D m d S.2.1 S.2.2).toArray] (by show [a.eval (.tmp 51), a.eval (.tmp 52)] = _; rw [e51, h52]) ((same_any _ _ C' D' C D n' c' m' d' n c m d _ _ _ _ _ _ _ _ W hC'.1 hD'.1 (HC.out.below (ext_below hE)).1 (HD.out.below (ext_below hE)).1 (by omega) (by omega) (by omega) (by omega)).mono (by rintro e W' ⟨rfl, hb⟩; rw [decide_eq_true ⟨⟨rfl, rfl, rfl⟩, rfl, rfl⟩]; exact ⟨_, rfl, hb, rfl, trivial⟩))
      · intro a W hE hb hs
        have h53 : a.eval (.tmp 53) = .bool true := hs 13 (by decide)
        have h48 : a.eval (.tmp 48) = .bool false := hs 8 (by decide)
        refine flowY rfl rfl h48 ?_
        exact val_not _ _ rfl _ h53 ⟨rfl, trivial⟩
      · intro a W hE hb hs
        have h48 : a.eval (.tmp 48) = .bool false := hs 8 (by decide)
        have h54 : a.eval (.tmp 54) = .bool false := hs 14 (by decide)
        refine flow0 rfl ?_
        exact val_pick _ _ _ rfl false h48 _ (by rw [if_neg (by decide)]; exact h54) ⟨rfl, trivial⟩
      · intro a W hE hb hs
        have h55 : a.eval (.tmp 55) = .bool false := hs 15 (by decide)
        refine flow0 rfl ?_
        exact val_move _ rfl _ h55 ⟨rfl, trivial⟩
      · intro a W hE hb hs
        have h14 : a.eval (.tmp 14) = .pointer (some ⟨X14, 0, none⟩) := hb 14 (by decide)
        have h56 : a.eval (.tmp 56) = .bool false := hs 16 (by decide)
        refine flowY rfl rfl h56 ?_
        intro K hK
        unfold Oper.wp execOp
        simp only [h14]
        simp [go_sem]
        exact hK _ _ ⟨Below.refl _ _, rfl, trivial⟩
      · intro a W hE hb hs
        have h57 : a.eval (.tmp 57) = .pointer (some ⟨X14, 37, none⟩) := hs 17 (by decide)
        have h56 : a.eval (.tmp 56) = .bool false := hs 16 (by decide)
        refine flowY rfl rfl h56 ?_
        have g0 := sgn_st (HBX14.out.below (ext_below hE) HBX14.out.lt)
        rw [Hst.out] at g0
        intro K hK
        unfold Oper.wp execOp
        simp only [h57]
        simp [go_sem, g0]
        exact hK _ _ ⟨Below.refl _ _, rfl, trivial⟩
      · intro a W hE hb hs
        have h58 : a.eval (.tmp 58) = .int .i64 160 := hs 18 (by decide)
        have h56 : a.eval (.tmp 56) = .bool false := hs 16 (by decide)
        refine flowY rfl rfl h56 ?_
        intro K hK
        unfold Oper.wp execOp
        simp only [h58, BigFrame.eval_const]
        simp [go_sem]
        exact hK _ _ ⟨Below.refl _ _, rfl, trivial⟩
      · intro a W hE hb hs
        have h56 : a.eval (.tmp 56) = .bool false := hs 16 (by decide)
        have h59 : a.eval (.tmp 59) = .bool true := hs 19 (by decide)
        refine flow0 rfl ?_
        exact val_pick _ _ _ rfl false h56 _ (by rw [if_neg (by decide)]; exact h59) ⟨rfl, trivial⟩
    intro f W hb hT hp hd
    have e60 : f 60 = .bool true := hT 20 (by decide)
    simp only [putV, List.foldl_cons, List.foldl_nil, Act.put, List.setIfInBounds_toArray, List.set_cons_succ, List.set_cons_zero, Exit.then]
    rw [e60]
    replace HB := Lib.hid (HB.out.trans (hb.mono HB.out.size))
    replace HW := Lib.hid (HW.out.below hb HW.out.lt)
    replace Hg := Lib.hid (Hg.out.below hb)
    replace HBX8 := Lib.hid (HBX8.out.below hb HBX8.out.lt)
    replace Hb := Lib.hid (Hb.out.below hb)
    replace HBX10 := Lib.hid (HBX10.out.below hb HBX10.out.lt)
    replace HBX12 := Lib.hid (HBX12.out.below hb HBX12.out.lt)
    replace HC := Lib.hid (HC.out.below hb)
    replace HD := Lib.hid (HD.out.below hb)
    replace HBX14 := Lib.hid (HBX14.out.below hb HBX14.out.lt)
    clear hb hT hp hd e60
    go_upto_region 8 with fail
    refine wp_region_flowF [61, 62, 63, 64, 65, 66, 67, 68, 69, 70, 71, 72, 73, 74, 75, 76, 77, 78, 6] [(Spec.is (.bool true), false), (Spec.is (.bool true), false), (Spec.is (.agg (sumC P).toArray), false), (Spec.is (.agg (sumC P).toArray), false), (Spec.is (.bool true), false), (Spec.is (.bool true), false), (Spec.is (.bool true), false), (Spec.is (.int .i64 0), false), (Spec.is (.int .i64 0), false), (Spec.is (.bool true), false), (Spec.is (.bool true), false), (Spec.is (.bool true), false), (Spec.is (.agg (secV k).toArray), false), (Spec.is (.slice A len' cap), false), (spSgn S, false), (Spec.is (.agg (sgnV S.1.i C n c D m d S.2.1 S.2.2).toArray), false), (Spec.is (.bool true), false), (Spec.is (.bool true), false), (Spec.is (.bool true), false)] 136 (by kernel_rfl) rfl (by decide) rfl (by decide) (by kernel_rfl) ?_ ?_
    · refine ⟨?_, ?_, ?_, ?_, ?_, ?_, ?_, ?_, ?_, ?_, ?_, ?_, ?_, ?_, ?_, ?_, ?_, ?_, ?_, trivial⟩
      · intro a W hE hb hs
        have h7 : a.eval (.tmp 7) = .bool true := hb 7 (by decide)
        refine flow0 rfl ?_
        exact val_move _ rfl _ h7 ⟨rfl, trivial⟩
      · intro a W hE hb hs
        have h61 : a.eval (.tmp 61) = .bool true := hs 0 (by decide)
        refine flow0 rfl ?_
        exact val_move _ rfl _ h61 ⟨rfl, trivial⟩
      · intro a W hE hb hs
        have h10 : a.eval (.tmp 10) = .pointer (some ⟨X10, 0, none⟩) := hb 10 (by decide)
        have h62 : a.eval (.tmp 62) = .bool true := hs 1 (by decide)
        refine flowY rfl rfl h62 ?_
        exact val_load_row 26 _ rfl X10 0 h10 (sumC P) _ (Blk.range (HBX10.out.below (ext_below hE) HBX10.out.lt)) und32 rfl (by rw [sumC_len]; kernel_rfl) ⟨rfl, trivial⟩
      · intro a W hE hb hs
        have h12 : a.eval (.tmp 12) = .pointer (some ⟨X12, 0, none⟩) := hb 12 (by decide)
        have h62 : a.eval (.tmp 62) = .bool true := hs 1 (by decide)
        refine flowY rfl rfl h62 ?_
        exact val_load_row 26 _ rfl X12 0 h12 (sumC P) _ (Blk.range (HBX12.out.below (ext_below hE) HBX12.out.lt)) und32 rfl (by rw [sumC_len]; kernel_rfl) ⟨rfl, trivial⟩
      · intro a W hE hb hs
        have h63 : a.eval (.tmp 63) = .agg (sumC P).toArray := hs 2 (by decide)
        have h64 : a.eval (.tmp 64) = .agg (sumC P).toArray := hs 3 (by decide)
        have h62 : a.eval (.tmp 62) = .bool true := hs 1 (by decide)
        refine flowY rfl rfl h62 ?_
        intro K hK
        unfold Oper.wp execOp
        simp only [h63, h64]
        simp [go_sem, hz1]
        exact hK _ _ ⟨Below.refl _ _, rfl, trivial⟩
      · intro a W hE hb hs
        have h62 : a.eval (.tmp 62) = .bool true := hs 1 (by decide)
        have h65 : a.eval (.tmp 65) = .bool true := hs 4 (by decide)
        refine flow0 rfl ?_
        exact val_pick _ _ _ rfl true h62 _ (by rw [if_pos rfl]; exact h65) ⟨rfl, trivial⟩
      · intro a W hE hb hs
        have h66 : a.eval (.tmp 66) = .bool true := hs 5 (by decide)
        refine flow0 rfl ?_
        exact val_move _ rfl _ h66 ⟨rfl, trivial⟩
      · intro a W hE hb hs
        have h11 : a.eval (.tmp 11) = .int .i64 0 := hb 11 (by decide)
        have h67 : a.eval (.tmp 67) = .bool true := hs 6 (by decide)
        refine flowY rfl rfl h67 ?_
        exact val_move _ rfl _ h11 ⟨rfl, trivial⟩
      · intro a W hE hb hs
        have h13 : a.eval (.tmp 13) = .int .i64 0 := hb 13 (by decide)
        have h67 : a.eval (.tmp 67) = .bool true := hs 6 (by decide)
        refine flowY rfl rfl h67 ?_
        exact val_move _ rfl _ h13 ⟨rfl, trivial⟩
      · intro a W hE hb hs
        have h68 : a.eval (.tmp 68) = .int .i64 0 := hs 7 (by decide)
        have h69 : a.eval (.tmp 69) = .int .i64 0 := hs 8 (by decide)
        have h67 : a.eval (.tmp 67) = .bool true := hs 6 (by decide)
        refine flowY rfl rfl h67 ?_
        intro K hK
        unfold Oper.wp execOp
        simp only [h68, h69]
        simp [go_sem]
        exact hK _ _ ⟨Below.refl _ _, rfl, trivial⟩
      · intro a W hE hb hs
        have h67 : a.eval (.tmp 67) = .bool true := hs 6 (by decide)
        have h70 : a.eval (.tmp 70) = .bool true := hs 9 (by decide)
        refine flow0 rfl ?_
        exact val_pick _ _ _ rfl true h67 _ (by rw [if_pos rfl]; exact h70) ⟨rfl, trivial⟩
      · intro a W hE hb hs
        have h71 : a.eval (.tmp 71) = .bool true := hs 10 (by decide)
        refine flow0 rfl ?_
        exact val_move _ rfl _ h71 ⟨rfl, trivial⟩
      · intro a W hE hb hs
        have h8 : a.eval (.tmp 8) = .pointer (some ⟨X8, 0, none⟩) := hb 8 (by decide)
        have h72 : a.eval (.tmp 72) = .bool true := hs 11 (by decide)
        refine flowY rfl rfl h72 ?_
        exact val_load_row 28 _ rfl X8 0 h8 (secV k) d28 (Blk.range (HBX8.out.below (ext_below hE) HBX8.out.lt)) hd28 hrow28 (by rw [secV_len]; kernel_rfl) ⟨rfl, trivial⟩
      · intro a W hE hb hs
        have h9 : a.eval (.tmp 9) = .slice A len' cap := hb 9 (by decide)
        have h72 : a.eval (.tmp 72) = .bool true := hs 11 (by decide)
        refine flowY rfl rfl h72 ?_
        exact val_move _ rfl _ h9 ⟨rfl, trivial⟩
      · intro a W hE hb hs
        have h73 : a.eval (.tmp 73) = .agg (secV k).toArray := hs 12 (by decide)
        have h74 : a.eval (.tmp 74) = .slice A len' cap := hs 13 (by decide)
        have h72 : a.eval (.tmp 72) = .bool true := hs 11 (by decide)
        refine flowY rfl rfl h72 ?_
        exact val_call 17 _ _ rfl (by kernel_rfl) [.agg (secV k).toArray, .slice A len' cap] (by show [a.eval (.tmp 73), a.eval (.tmp 74)] = _; rw [h73, h74]) ((made_any k A len' cap B W (Hg.out.below (ext_below hE)) (Hb.out.below (ext_below hE)) (by omega)).mono (by rw [← HS.out]; rintro e W' ⟨⟨C, n, c, D, m, d, rfl, _, _, hC, hD⟩, hb⟩; exact ⟨_, rfl, hb, ⟨C, n, c, D, m, d, rfl, hC, hD⟩, trivial⟩))
      · intro a W hE hb hs
        have h14 : a.eval (.tmp 14) = .pointer (some ⟨X14, 0, none⟩) := hb 14 (by decide)
        have h72 : a.eval (.tmp 72) = .bool true := hs 11 (by decide)
        refine flowY rfl rfl h72 ?_
        exact val_load_row 39 _ rfl X14 0 h14 (sgnV S.1.i C n c D m d S.2.1 S.2.2) d39 (Blk.range (HBX14.out.below (ext_below hE) HBX14.out.lt)) hd39 hrow39 (by rw [sgnV_len]; kernel_rfl) ⟨rfl, trivial⟩
      · intro a W hE hb hs
        have h75 : ∃ (C : Option Addr) (n c : Nat) (D : Option Addr) (m d : Nat), (a.eval (.tmp 75)) = .agg (sgnV S.1.i C n c D m d S.2.1 S.2.2).toArray ∧ TRd W 26 32 C n (S.1.ch.flatMap sumC) ∧ TRd W 26 32 D m (S.1.pa.flatMap sumC) := hs 14 (by decide)
        have h76 : a.eval (.tmp 76) = .agg (sgnV S.1.i C n c D m d S.2.1 S.2.2).toArray := hs 15 (by decide)
        have h72 : a.eval (.tmp 72) = .bool true := hs 11 (by decide)
        refine flowY rfl rfl h72 ?_
        obtain ⟨C', n', c', D', m', d', e75, hC', hD'⟩ := h75
        have q3 := hC'.1.lenf sumC_len (by omega)
        have q4 := hD'.1.lenf sumC_len (by omega)
        exact val_call 16 _ _ rfl (by kernel_rfl) [.agg (sgnV S.1.i C' n' c' D' m' d' S.2.1 S.2.2).toArray, .agg (sgnV S.1.i C n c D m d S.2.1 S.2.2).toArray] (by show [a.eval (.tmp 75), a.eval (.tmp 76)] = _; rw [e75, h76]) ((same_any _ _ C' D' C D n' c' m' d' n c m d _ _ _ _ _ _ _ _ W hC'.1 hD'.1 (HC.out.below (ext_below hE)).1 (HD.out.below (ext_below hE)).1 (by omega) (by omega) (by omega) (by omega)).mono (by rintro e W' ⟨rfl, hb⟩; rw [decide_eq_true ⟨⟨rfl, rfl, rfl⟩, rfl, rfl⟩]; exact ⟨_, rfl, hb, rfl, trivial⟩))
      · intro a W hE hb hs
        have h72 : a.eval (.tmp 72) = .bool true := hs 11 (by decide)
        have h77 : a.eval (.tmp 77) = .bool true := hs 16 (by decide)
        refine flow0 rfl ?_
        exact val_pick _ _ _ rfl true h72 _ (by rw [if_pos rfl]; exact h77) ⟨rfl, trivial⟩
      · intro a W hE hb hs
        have h78 : a.eval (.tmp 78) = .bool true := hs 17 (by decide)
        refine flow0 rfl ?_
        exact val_assign _ rfl _ h78 ⟨rfl, trivial⟩
    intro f W hb hT hp hd
    have e6 : f 6 = .bool true := hT 18 (by decide)
    simp only [putV, List.foldl_cons, List.foldl_nil, Act.put, List.setIfInBounds_toArray, List.set_cons_succ, List.set_cons_zero, Exit.then]
    rw [e6]
    have HE := Lib.hid (HB.out.trans (hb.mono HB.out.size))
    clear hb hT hp hd e6
    go_wp2_with fail
    go_ret
    exact ⟨rfl, HE.out⟩
  have Hst := Lib.hid (show S.2.2 = 0 by obtain ⟨_, _, h, _⟩ := sign_ok B HV.out E3.out E1.out (by omega : N < 2 ^ H); rw [HS.out, h])
  refine wp_region_flowF [40, 41, 42, 43, 44, 45, 46, 47, 48, 49, 50, 51, 52, 53, 54, 55, 56, 57, 58, 59, 60] [(Spec.is (.agg (sumC P).toArray), false), (Spec.is (.agg (sumC P).toArray), false), (Spec.is (.bool false), false), (Spec.is (.bool false), false), (Spec.is (.int .i64 0), false), (Spec.is (.int .i64 0), false), (Spec.is (.bool false), false), (Spec.is (.bool false), false), (Spec.is (.bool false), false), (Spec.is (.agg (secV k).toArray), false), (Spec.is (.slice A len' cap), false), (spSgn S, false), (Spec.is (.agg (sgnV S.1.i C n c D m d S.2.1 S.2.2).toArray), false), (Spec.is (.bool true), false), (Spec.is (.bool false), false), (Spec.is (.bool false), false), (Spec.is (.bool false), false), (Spec.is (.pointer (some ⟨X14, 37, none⟩)), false), (Spec.is (.int .i64 0), false), (Spec.is (.bool false), false), (Spec.is (.bool false), false)] 136 (by kernel_rfl) rfl (by decide) rfl (by decide) (by kernel_rfl) ?_ ?_
  · refine ⟨?_, ?_, ?_, ?_, ?_, ?_, ?_, ?_, ?_, ?_, ?_, ?_, ?_, ?_, ?_, ?_, ?_, ?_, ?_, ?_, ?_, trivial⟩
    · intro a W hE hb hs
      have h10 : a.eval (.tmp 10) = .pointer (some ⟨X10, 0, none⟩) := hb 10 (by decide)
      refine flow0 rfl ?_
      exact val_load_row 26 _ rfl X10 0 h10 (sumC P) _ (Blk.range (HBX10.out.below (ext_below hE) HBX10.out.lt)) und32 rfl (by rw [sumC_len]; kernel_rfl) ⟨rfl, trivial⟩
    · intro a W hE hb hs
      have h12 : a.eval (.tmp 12) = .pointer (some ⟨X12, 0, none⟩) := hb 12 (by decide)
      refine flow0 rfl ?_
      exact val_load_row 26 _ rfl X12 0 h12 (sumC P) _ (Blk.range (HBX12.out.below (ext_below hE) HBX12.out.lt)) und32 rfl (by rw [sumC_len]; kernel_rfl) ⟨rfl, trivial⟩
    · intro a W hE hb hs
      have h40 : a.eval (.tmp 40) = .agg (sumC P).toArray := hs 0 (by decide)
      have h41 : a.eval (.tmp 41) = .agg (sumC P).toArray := hs 1 (by decide)
      refine flow0 rfl ?_
      intro K hK
      unfold Oper.wp execOp
      simp only [h40, h41]
      simp [go_sem, hz2]
      exact hK _ _ ⟨Below.refl _ _, rfl, trivial⟩
    · intro a W hE hb hs
      have h42 : a.eval (.tmp 42) = .bool false := hs 2 (by decide)
      refine flow0 rfl ?_
      exact val_move _ rfl _ h42 ⟨rfl, trivial⟩
    · intro a W hE hb hs
      have h11 : a.eval (.tmp 11) = .int .i64 0 := hb 11 (by decide)
      have h43 : a.eval (.tmp 43) = .bool false := hs 3 (by decide)
      refine flowY rfl rfl h43 ?_
      exact val_move _ rfl _ h11 ⟨rfl, trivial⟩
    · intro a W hE hb hs
      have h13 : a.eval (.tmp 13) = .int .i64 0 := hb 13 (by decide)
      have h43 : a.eval (.tmp 43) = .bool false := hs 3 (by decide)
      refine flowY rfl rfl h43 ?_
      exact val_move _ rfl _ h13 ⟨rfl, trivial⟩
    · intro a W hE hb hs
      have h44 : a.eval (.tmp 44) = .int .i64 0 := hs 4 (by decide)
      have h45 : a.eval (.tmp 45) = .int .i64 0 := hs 5 (by decide)
      have h43 : a.eval (.tmp 43) = .bool false := hs 3 (by decide)
      refine flowY rfl rfl h43 ?_
      intro K hK
      unfold Oper.wp execOp
      simp only [h44, h45]
      simp [go_sem]
      exact hK _ _ ⟨Below.refl _ _, rfl, trivial⟩
    · intro a W hE hb hs
      have h43 : a.eval (.tmp 43) = .bool false := hs 3 (by decide)
      have h46 : a.eval (.tmp 46) = .bool false := hs 6 (by decide)
      refine flow0 rfl ?_
      exact val_pick _ _ _ rfl false h43 _ (by rw [if_neg (by decide)]; exact h46) ⟨rfl, trivial⟩
    · intro a W hE hb hs
      have h47 : a.eval (.tmp 47) = .bool false := hs 7 (by decide)
      refine flow0 rfl ?_
      exact val_move _ rfl _ h47 ⟨rfl, trivial⟩
    · intro a W hE hb hs
      have h8 : a.eval (.tmp 8) = .pointer (some ⟨X8, 0, none⟩) := hb 8 (by decide)
      have h48 : a.eval (.tmp 48) = .bool false := hs 8 (by decide)
      refine flowY rfl rfl h48 ?_
      exact val_load_row 28 _ rfl X8 0 h8 (secV k) d28 (Blk.range (HBX8.out.below (ext_below hE) HBX8.out.lt)) hd28 hrow28 (by rw [secV_len]; kernel_rfl) ⟨rfl, trivial⟩
    · intro a W hE hb hs
      have h9 : a.eval (.tmp 9) = .slice A len' cap := hb 9 (by decide)
      have h48 : a.eval (.tmp 48) = .bool false := hs 8 (by decide)
      refine flowY rfl rfl h48 ?_
      exact val_move _ rfl _ h9 ⟨rfl, trivial⟩
    · intro a W hE hb hs
      have h49 : a.eval (.tmp 49) = .agg (secV k).toArray := hs 9 (by decide)
      have h50 : a.eval (.tmp 50) = .slice A len' cap := hs 10 (by decide)
      have h48 : a.eval (.tmp 48) = .bool false := hs 8 (by decide)
      refine flowY rfl rfl h48 ?_
      exact val_call 17 _ _ rfl (by kernel_rfl) [.agg (secV k).toArray, .slice A len' cap] (by show [a.eval (.tmp 49), a.eval (.tmp 50)] = _; rw [h49, h50]) ((made_any k A len' cap B W (Hg.out.below (ext_below hE)) (Hb.out.below (ext_below hE)) (by omega)).mono (by rw [← HS.out]; rintro e W' ⟨⟨C, n, c, D, m, d, rfl, _, _, hC, hD⟩, hb⟩; exact ⟨_, rfl, hb, ⟨C, n, c, D, m, d, rfl, hC, hD⟩, trivial⟩))
    · intro a W hE hb hs
      have h14 : a.eval (.tmp 14) = .pointer (some ⟨X14, 0, none⟩) := hb 14 (by decide)
      have h48 : a.eval (.tmp 48) = .bool false := hs 8 (by decide)
      refine flowY rfl rfl h48 ?_
      exact val_load_row 39 _ rfl X14 0 h14 (sgnV S.1.i C n c D m d S.2.1 S.2.2) d39 (Blk.range (HBX14.out.below (ext_below hE) HBX14.out.lt)) hd39 hrow39 (by rw [sgnV_len]; kernel_rfl) ⟨rfl, trivial⟩
    · intro a W hE hb hs
      have h51 : ∃ (C : Option Addr) (n c : Nat) (D : Option Addr) (m d : Nat), (a.eval (.tmp 51)) = .agg (sgnV S.1.i C n c D m d S.2.1 S.2.2).toArray ∧ TRd W 26 32 C n (S.1.ch.flatMap sumC) ∧ TRd W 26 32 D m (S.1.pa.flatMap sumC) := hs 11 (by decide)
      have h52 : a.eval (.tmp 52) = .agg (sgnV S.1.i C n c D m d S.2.1 S.2.2).toArray := hs 12 (by decide)
      have h48 : a.eval (.tmp 48) = .bool false := hs 8 (by decide)
      refine flowY rfl rfl h48 ?_
      obtain ⟨C', n', c', D', m', d', e51, hC', hD'⟩ := h51
      have q3 := hC'.1.lenf sumC_len (by omega)
      have q4 := hD'.1.lenf sumC_len (by omega)
      exact val_call 16 _ _ rfl (by kernel_rfl) [.agg (sgnV S.1.i C' n' c' D' m' d' S.2.1 S.2.2).toArray, .agg (sgnV S.1.i C n c D m d S.2.1 S.2.2).toArray] (by show [a.eval (.tmp 51), a.eval (.tmp 52)] = _; rw [e51, h52]) ((same_any _ _ C' D' C D n' c' m' d' n c m d _ _ _ _ _ _ _ _ W hC'.1 hD'.1 (HC.out.below (ext_below hE)).1 (HD.out.below (ext_below hE)).1 (by omega) (by omega) (by omega) (by omega)).mono (by rintro e W' ⟨rfl, hb⟩; rw [decide_eq_true ⟨⟨rfl, rfl, rfl⟩, rfl, rfl⟩]; exact ⟨_, rfl, hb, rfl, trivial⟩))
    · intro a W hE hb hs
      have h53 : a.eval (.tmp 53) = .bool true := hs 13 (by decide)
      have h48 : a.eval (.tmp 48) = .bool false := hs 8 (by decide)
      refine flowY rfl rfl h48 ?_
      exact val_not _ _ rfl _ h53 ⟨rfl, trivial⟩
    · intro a W hE hb hs
      have h48 : a.eval (.tmp 48) = .bool false := hs 8 (by decide)
      have h54 : a.eval (.tmp 54) = .bool false := hs 14 (by decide)
      refine flow0 rfl ?_
      exact val_pick _ _ _ rfl false h48 _ (by rw [if_neg (by decide)]; exact h54) ⟨rfl, trivial⟩
    · intro a W hE hb hs
      have h55 : a.eval (.tmp 55) = .bool false := hs 15 (by decide)
      refine flow0 rfl ?_
      exact val_move _ rfl _ h55 ⟨rfl, trivial⟩
    · intro a W hE hb hs
      have h14 : a.eval (.tmp 14) = .pointer (some ⟨X14, 0, none⟩) := hb 14 (by decide)
      have h56 : a.eval (.tmp 56) = .bool false := hs 16 (by decide)
      refine flowY rfl rfl h56 ?_
      intro K hK
      unfold Oper.wp execOp
      simp only [h14]
      simp [go_sem]
      exact hK _ _ ⟨Below.refl _ _, rfl, trivial⟩
    · intro a W hE hb hs
      have h57 : a.eval (.tmp 57) = .pointer (some ⟨X14, 37, none⟩) := hs 17 (by decide)
      have h56 : a.eval (.tmp 56) = .bool false := hs 16 (by decide)
      refine flowY rfl rfl h56 ?_
      have g0 := sgn_st (HBX14.out.below (ext_below hE) HBX14.out.lt)
      rw [Hst.out] at g0
      intro K hK
      unfold Oper.wp execOp
      simp only [h57]
      simp [go_sem, g0]
      exact hK _ _ ⟨Below.refl _ _, rfl, trivial⟩
    · intro a W hE hb hs
      have h58 : a.eval (.tmp 58) = .int .i64 0 := hs 18 (by decide)
      have h56 : a.eval (.tmp 56) = .bool false := hs 16 (by decide)
      refine flowY rfl rfl h56 ?_
      intro K hK
      unfold Oper.wp execOp
      simp only [h58, BigFrame.eval_const]
      simp [go_sem]
      exact hK _ _ ⟨Below.refl _ _, rfl, trivial⟩
    · intro a W hE hb hs
      have h56 : a.eval (.tmp 56) = .bool false := hs 16 (by decide)
      have h59 : a.eval (.tmp 59) = .bool false := hs 19 (by decide)
      refine flow0 rfl ?_
      exact val_pick _ _ _ rfl false h56 _ (by rw [if_neg (by decide)]; exact h59) ⟨rfl, trivial⟩
  intro f W hb hT hp hd
  have e60 : f 60 = .bool false := hT 20 (by decide)
  simp only [putV, List.foldl_cons, List.foldl_nil, Act.put, List.setIfInBounds_toArray, List.set_cons_succ, List.set_cons_zero, Exit.then]
  rw [e60]
  replace HB := Lib.hid (HB.out.trans (hb.mono HB.out.size))
  replace HW := Lib.hid (HW.out.below hb HW.out.lt)
  replace Hg := Lib.hid (Hg.out.below hb)
  replace HBX8 := Lib.hid (HBX8.out.below hb HBX8.out.lt)
  replace Hb := Lib.hid (Hb.out.below hb)
  replace HBX10 := Lib.hid (HBX10.out.below hb HBX10.out.lt)
  replace HBX12 := Lib.hid (HBX12.out.below hb HBX12.out.lt)
  replace HC := Lib.hid (HC.out.below hb)
  replace HD := Lib.hid (HD.out.below hb)
  replace HBX14 := Lib.hid (HBX14.out.below hb HBX14.out.lt)
  clear hb hT hp hd e60
  go_upto_region 9 with fail
  have cx2 : W.cell? ⟨w.heap.size, 2, none⟩ = some (.int .u8 (b2.toNat : Int)) := by rw [HW.out.cell]; rfl
  have cx3 : W.cell? ⟨w.heap.size, 3, none⟩ = some (.int .u8 (b3.toNat : Int)) := by rw [HW.out.cell]; rfl
  have cx4 : W.cell? ⟨w.heap.size, 4, none⟩ = some (.int .u8 (b4.toNat : Int)) := by rw [HW.out.cell]; rfl
  have Hsg := Lib.hid (sgn_sig HBX14.out)
  go_upto_region 10 with (refine wpList_load_mid rfl 37 (.tmp 79) rfl X14 0 rfl (sgV S.1.i C n c D m d) d37 Hsg.out hd37 hrow37 (by rw [sgV_len]; kernel_rfl) ?_)
  refine (bent_any S.1.i C D n c m d S.1.ch S.1.pa b2 b3 b4 W HC.out.1 HD.out.1 (by omega) (by omega)).mono ?_
  rintro e v11 ⟨⟨i5, C5, n5, c5, D5, m5, d5, ch5, pa5, rfl, hnc5, hmd5, hn5, hm5, hC5, hD5⟩, hb_⟩
  replace HB := Lib.hid (HB.out.trans (hb_.mono HB.out.size))
  replace HW := Lib.hid (HW.out.below hb_ HW.out.lt)
  replace Hg := Lib.hid (Hg.out.below hb_)
  replace HBX8 := Lib.hid (HBX8.out.below hb_ HBX8.out.lt)
  replace Hb := Lib.hid (Hb.out.below hb_)
  replace HBX10 := Lib.hid (HBX10.out.below hb_ HBX10.out.lt)
  replace HBX12 := Lib.hid (HBX12.out.below hb_ HBX12.out.lt)
  replace HC := Lib.hid (HC.out.below hb_)
  replace HD := Lib.hid (HD.out.below hb_)
  replace HBX14 := Lib.hid (HBX14.out.below hb_ HBX14.out.lt)
  clear hb_
  have HC5 := Lib.hid hC5
  have HD5 := Lib.hid hD5
  clear hC5 hD5 cx2 cx3 cx4 Hsg
  obtain ⟨v12a, hv12a⟩ : ∃ v, v = (v11.alloc (.cells (sgV 0 none 0 0 none 0 0).toArray 37)) := ⟨_, rfl⟩
  obtain ⟨X15, hX15⟩ : ∃ v, v = v11.heap.size := ⟨_, rfl⟩
  have hNX15 : Blk (v11.alloc (.cells (sgV 0 none 0 0 none 0 0).toArray 37)) X15 37 (sgV 0 none 0 0 none 0 0).toArray := by
    have := Blk.new v11 37 (sgV 0 none 0 0 none 0 0).toArray
    skip
    rw [hX15]; exact this
  rw [← hv12a] at hNX15
  have hbA : Below v11.heap.size v11 v12a := by
    rw [hv12a]; exact (Below.refl _ _).alloc (by simp) _
  have HNX15 := Lib.hid hNX15
  have hkX15 := (KeptIn.refl (fun b => b ≠ X15) v12a).setRow (g := X15) (fun h => h rfl) (sgV i5 C5 n5 c5 D5 m5 d5).toArray
  replace hNX15 : Blk (v12a.setRow X15 (sgV i5 C5 n5 c5 D5 m5 d5).toArray) X15 37 (sgV i5 C5 n5 c5 D5 m5 d5).toArray := setRow_heap _ _ _ _ _ _ HNX15.out
  obtain ⟨v12, hv12⟩ : ∃ v, v = (v12a.setRow X15 (sgV i5 C5 n5 c5 D5 m5 d5).toArray) := ⟨_, rfl⟩
  have hbB : Below v11.heap.size v11 v12 := by rw [hv12]; exact (Below.setRow hbA (show v11.heap.size ≤ X15 by omega) _)
  rw [← hv12] at hNX15
  have HBX15 := Lib.hid hNX15
  have Hv12a := Lib.hid hv12a
  have Hv12 := Lib.hid hv12
  have HEX15 := Lib.hid hX15
  clear hNX15 hkX15 hv12a hv12 hbA
  have hlX15 : w.heap.size ≤ X15 := by have := HB.out.size; omega
  have hoX15 : w.heap.size < X15 := by have := HW.out.lt; omega
  have hoX8X15 : X8 < X15 := by have := HBX8.out.lt; omega
  have hoX10X15 : X10 < X15 := by have := HBX10.out.lt; omega
  have hoX12X15 : X12 < X15 := by have := HBX12.out.lt; omega
  have hoX14X15 : X14 < X15 := by have := HBX14.out.lt; omega
  clear hX15
  go_upto_region 10 with (first | (refine wpList_alloc0 rfl 37 rfl (sgV 0 none 0 0 none 0 0).toArray _ i37 hi37 hz37 rfl ?_; simp only [Act.put, List.setIfInBounds_toArray, List.set_cons_succ, List.set_cons_zero]; try simp only [World.size_alloc]) | (rw [← Hv12a.out, ← HEX15.out]; refine wpList_store_row rfl 37 (.tmp 15) (.tmp 88) rfl X15 (sgV i5 C5 n5 c5 D5 m5 d5).toArray rfl rfl 37 _ HNX15.out (size37 _ rfl) rfl (sg_one _ _ _ _ _ _ _) ?_; rw [← Hv12.out]))
  replace HB := Lib.hid (HB.out.trans (hbB.mono HB.out.size))
  replace HW := Lib.hid (HW.out.below hbB HW.out.lt)
  replace Hg := Lib.hid (Hg.out.below hbB)
  replace HBX8 := Lib.hid (HBX8.out.below hbB HBX8.out.lt)
  replace Hb := Lib.hid (Hb.out.below hbB)
  replace HBX10 := Lib.hid (HBX10.out.below hbB HBX10.out.lt)
  replace HBX12 := Lib.hid (HBX12.out.below hbB HBX12.out.lt)
  replace HC := Lib.hid (HC.out.below hbB)
  replace HD := Lib.hid (HD.out.below hbB)
  replace HBX14 := Lib.hid (HBX14.out.below hbB HBX14.out.lt)
  replace HC5 := Lib.hid (HC5.out.below hbB)
  replace HD5 := Lib.hid (HD5.out.below hbB)
  clear hbB
  clear HNX15 HEX15 Hv12a Hv12
  have cx4 : v12.cell? ⟨w.heap.size, 4, none⟩ = some (.int .u8 (b4.toNat : Int)) := by rw [HW.out.cell]; rfl
  obtain ⟨i0, hi0, hz0, hz1', hz2'⟩ := info_parts info5
  have Hbl := Lib.hid (Hb.out.alloc (.cells #[.int .u8 (b4.toNat : Int)] 5))
  go_upto_region 11 with (at_builtin; refine wpList_app rfl (.tmp 91) (.tmp 92) 22 rfl 5 i0 (.int .u8 0) 1 Tryd.underlying22 hi0 hz0 hz1' hz2' rfl v12.heap.size (by simp) _ 1 _ rfl (.inr (own_lit v12 5 (.int .u8 (b4.toNat : Int)))) A len' cap (B.map byteV) rfl Hbl.out oneB1 (by unfold maxLen; omega) (by omega) ?_; intro v' w9 happ hb1; have Hb1 := Lib.hid (((Below.refl v12.heap.size v12).alloc (Nat.le_refl _) (.cells #[.int .u8 (b4.toNat : Int)] 5)).trans hb1); obtain ⟨A1, c1, rfl, hc1, hrd1⟩ := happ.rd; have Hrd1 := Lib.hid (show Rd w9 1 A1 (1 + len') ((b4 :: B).map byteV) from hrd1); clear happ hb1 hrd1)
  clear cx4 Hbl hi0 hz0 hz1' hz2'
  replace HB := Lib.hid (HB.out.trans (Hb1.out.mono HB.out.size))
  replace HW := Lib.hid (HW.out.below Hb1.out HW.out.lt)
  replace Hg := Lib.hid (Hg.out.below Hb1.out)
  replace HBX8 := Lib.hid (HBX8.out.below Hb1.out HBX8.out.lt)
  replace Hb := Lib.hid (Hb.out.below Hb1.out)
  replace HBX10 := Lib.hid (HBX10.out.below Hb1.out HBX10.out.lt)
  replace HBX12 := Lib.hid (HBX12.out.below Hb1.out HBX12.out.lt)
  replace HC := Lib.hid (HC.out.below Hb1.out)
  replace HD := Lib.hid (HD.out.below Hb1.out)
  replace HBX14 := Lib.hid (HBX14.out.below Hb1.out HBX14.out.lt)
  replace HC5 := Lib.hid (HC5.out.below Hb1.out)
  replace HD5 := Lib.hid (HD5.out.below Hb1.out)
  replace HBX15 := Lib.hid (HBX15.out.below Hb1.out HBX15.out.lt)
  clear Hb1
  have bq := builtSum1 b4
  obtain ⟨V1, hV1⟩ : ∃ v, v = verS P B ⟨i5, ch5, pa5⟩ := ⟨_, rfl⟩
  have HV1 := Lib.hid hV1
  clear hV1
  obtain ⟨V2, hV2⟩ : ∃ v, v = verS P (b4 :: B) ⟨S.1.i, S.1.ch, S.1.pa⟩ := ⟨_, rfl⟩
  have HV2 := Lib.hid hV2
  clear hV2
  obtain ⟨V3, hV3⟩ : ∃ v, v = verS (shaB b4) B ⟨S.1.i, S.1.ch, S.1.pa⟩ := ⟨_, rfl⟩
  have HV3 := Lib.hid hV3
  clear hV3
  refine wp_region_flowF [94, 95, 96, 97, 98, 99, 100, 101, 102, 103, 104, 105, 106, 107, 108, 109, 110, 111, 112, 113, 114, 115, 116, 117, 118, 119, 120, 121, 122, 123, 124, 125, 126, 127, 128, 129, 130, 131, 132, 133, 134, 135, 6] [(Spec.is (.bool true), false), (Spec.is (.bool true), false), (Spec.is (.agg (sumC P).toArray), false), (Spec.is (.slice A len' cap), false), (Spec.is (.agg (sgV i5 C5 n5 c5 D5 m5 d5).toArray), false), (Spec.is (.bool V1), false), (Spec.is (.agg (sumC P).toArray), false), (Spec.is (.slice A len' cap), false), (Spec.is (.agg (sgV i5 C5 n5 c5 D5 m5 d5).toArray), false), (Spec.is (.bool V1), false), (Spec.is (.bool true), false), (Spec.is (.bool true), false), (Spec.is (.bool true), false), (Spec.is (.agg (sumC P).toArray), false), (Spec.is (.slice A1 (1 + len') c1), false), (Spec.is (.pointer (some ⟨X14, 0, none⟩)), false), (Spec.is (.agg (sgV S.1.i C n c D m d).toArray), false), (Spec.is (.bool V2), false), (Spec.is (.agg (sumC P).toArray), false), (Spec.is (.slice A1 (1 + len') c1), false), (Spec.is (.pointer (some ⟨X14, 0, none⟩)), false), (Spec.is (.agg (sgV S.1.i C n c D m d).toArray), false), (Spec.is (.bool V2), false), (Spec.is (.bool true), false), (Spec.is (.bool true), false), (Spec.is (.bool true), false), (Spec.is (.pointer (some ⟨w.heap.size, 4, none⟩)), false), (Spec.is (.int .u8 (b4.toNat : Int)), false), (Spec.is (.agg (sumC (shaB b4)).toArray), false), (Spec.is (.slice A len' cap), false), (Spec.is (.pointer (some ⟨X14, 0, none⟩)), false), (Spec.is (.agg (sgV S.1.i C n c D m d).toArray), false), (Spec.is (.bool V3), false), (Spec.is (.pointer (some ⟨w.heap.size, 4, none⟩)), false), (Spec.is (.int .u8 (b4.toNat : Int)), false), (Spec.is (.agg (sumC (shaB b4)).toArray), false), (Spec.is (.slice A len' cap), false), (Spec.is (.pointer (some ⟨X14, 0, none⟩)), false), (Spec.is (.agg (sgV S.1.i C n c D m d).toArray), false), (Spec.is (.bool V3), false), (Spec.is (.bool true), false), (Spec.is (.bool true), false), (Spec.is (.bool true), false)] 136 (by kernel_rfl) rfl (by decide) rfl (by decide) (by kernel_rfl) ?_ ?_
  · refine ⟨?_, ?_, ?_, ?_, ?_, ?_, ?_, ?_, ?_, ?_, ?_, ?_, ?_, ?_, ?_, ?_, ?_, ?_, ?_, ?_, ?_, ?_, ?_, ?_, ?_, ?_, ?_, ?_, ?_, ?_, ?_, ?_, ?_, ?_, ?_, ?_, ?_, ?_, ?_, ?_, ?_, ?_, ?_, trivial⟩
    · intro a W hE hb hs
      have h7 : a.eval (.tmp 7) = .bool true := hb 7 (by decide)
      refine flow0 rfl ?_
      exact val_move _ rfl _ h7 ⟨rfl, trivial⟩
    · intro a W hE hb hs
      have h94 : a.eval (.tmp 94) = .bool true := hs 0 (by decide)
      refine flow0 rfl ?_
      exact val_move _ rfl _ h94 ⟨rfl, trivial⟩
    · intro a W hE hb hs
      have h12 : a.eval (.tmp 12) = .pointer (some ⟨X12, 0, none⟩) := hb 12 (by decide)
      have h95 : a.eval (.tmp 95) = .bool true := hs 1 (by decide)
      refine flowY rfl rfl h95 ?_
      exact val_load_row 26 _ rfl X12 0 h12 (sumC P) _ (Blk.range (HBX12.out.below (ext_below hE) HBX12.out.lt)) und32 rfl (by rw [sumC_len]; kernel_rfl) ⟨rfl, trivial⟩
    · intro a W hE hb hs
      have h9 : a.eval (.tmp 9) = .slice A len' cap := hb 9 (by decide)
      have h95 : a.eval (.tmp 95) = .bool true := hs 1 (by decide)
      refine flowY rfl rfl h95 ?_
      exact val_move _ rfl _ h9 ⟨rfl, trivial⟩
    · intro a W hE hb hs
      have h15 : a.eval (.tmp 15) = .pointer (some ⟨X15, 0, none⟩) := hb 15 (by decide)
      have h95 : a.eval (.tmp 95) = .bool true := hs 1 (by decide)
      refine flowY rfl rfl h95 ?_
      exact val_load_row 37 _ rfl X15 0 h15 (sgV i5 C5 n5 c5 D5 m5 d5) d37 (Blk.range (HBX15.out.below (ext_below hE) HBX15.out.lt)) hd37 hrow37 (by rw [sgV_len]; kernel_rfl) ⟨rfl, trivial⟩
    · intro a W hE hb hs
      have h96 : a.eval (.tmp 96) = .agg (sumC P).toArray := hs 2 (by decide)
      have h97 : a.eval (.tmp 97) = .slice A len' cap := hs 3 (by decide)
      have h98 : a.eval (.tmp 98) = .agg (sgV i5 C5 n5 c5 D5 m5 d5).toArray := hs 4 (by decide)
      have h95 : a.eval (.tmp 95) = .bool true := hs 1 (by decide)
      refine flowY rfl rfl h95 ?_
      exact val_call 19 _ _ rfl (by kernel_rfl) [.agg (sumC P).toArray, .slice A len' cap, .agg (sgV i5 C5 n5 c5 D5 m5 d5).toArray] (by show [a.eval (.tmp 96), a.eval (.tmp 97), a.eval (.tmp 98)] = _; rw [h96, h97, h98]) ((Verify_any P A len' cap B i5 C5 D5 n5 c5 m5 d5 ch5 pa5 W (Hg.out.below (ext_below hE)) (Hb.out.below (ext_below hE)) (by omega) (HC5.out.below (ext_below hE)).1 (HD5.out.below (ext_below hE)).1 hmd5).mono (by rw [← HV1.out]; rintro e W' ⟨rfl, hb⟩; exact ⟨_, rfl, hb, rfl, trivial⟩))
    · intro a W hE hb hs
      have h12 : a.eval (.tmp 12) = .pointer (some ⟨X12, 0, none⟩) := hb 12 (by decide)
      have h95 : a.eval (.tmp 95) = .bool true := hs 1 (by decide)
      refine flowY rfl rfl h95 ?_
      exact val_load_row 26 _ rfl X12 0 h12 (sumC P) _ (Blk.range (HBX12.out.below (ext_below hE) HBX12.out.lt)) und32 rfl (by rw [sumC_len]; kernel_rfl) ⟨rfl, trivial⟩
    · intro a W hE hb hs
      have h9 : a.eval (.tmp 9) = .slice A len' cap := hb 9 (by decide)
      have h95 : a.eval (.tmp 95) = .bool true := hs 1 (by decide)
      refine flowY rfl rfl h95 ?_
      exact val_move _ rfl _ h9 ⟨rfl, trivial⟩
    · intro a W hE hb hs
      have h15 : a.eval (.tmp 15) = .pointer (some ⟨X15, 0, none⟩) := hb 15 (by decide)
      have h95 : a.eval (.tmp 95) = .bool true := hs 1 (by decide)
      refine flowY rfl rfl h95 ?_
      exact val_load_row 37 _ rfl X15 0 h15 (sgV i5 C5 n5 c5 D5 m5 d5) d37 (Blk.range (HBX15.out.below (ext_below hE) HBX15.out.lt)) hd37 hrow37 (by rw [sgV_len]; kernel_rfl) ⟨rfl, trivial⟩
    · intro a W hE hb hs
      have h100 : a.eval (.tmp 100) = .agg (sumC P).toArray := hs 6 (by decide)
      have h101 : a.eval (.tmp 101) = .slice A len' cap := hs 7 (by decide)
      have h102 : a.eval (.tmp 102) = .agg (sgV i5 C5 n5 c5 D5 m5 d5).toArray := hs 8 (by decide)
      have h95 : a.eval (.tmp 95) = .bool true := hs 1 (by decide)
      refine flowY rfl rfl h95 ?_
      exact val_call 20 _ _ rfl (by kernel_rfl) [.agg (sumC P).toArray, .slice A len' cap, .agg (sgV i5 C5 n5 c5 D5 m5 d5).toArray] (by show [a.eval (.tmp 100), a.eval (.tmp 101), a.eval (.tmp 102)] = _; rw [h100, h101, h102]) ((RVerify_any P A len' cap B i5 C5 D5 n5 c5 m5 d5 ch5 pa5 W (Hb.out.below (ext_below hE)) (by omega) (HC5.out.below (ext_below hE)).1 (HD5.out.below (ext_below hE)).1).mono (by rw [← HV1.out]; rintro e W' ⟨rfl, hb⟩; exact ⟨_, rfl, hb, rfl, trivial⟩))
    · intro a W hE hb hs
      have h99 : a.eval (.tmp 99) = .bool V1 := hs 5 (by decide)
      have h103 : a.eval (.tmp 103) = .bool V1 := hs 9 (by decide)
      have h95 : a.eval (.tmp 95) = .bool true := hs 1 (by decide)
      refine flowY rfl rfl h95 ?_
      intro K hK
      unfold Oper.wp execOp
      simp only [h99, h103]
      simp [go_sem]
      exact hK _ _ ⟨Below.refl _ _, rfl, trivial⟩
    · intro a W hE hb hs
      have h95 : a.eval (.tmp 95) = .bool true := hs 1 (by decide)
      have h104 : a.eval (.tmp 104) = .bool true := hs 10 (by decide)
      refine flow0 rfl ?_
      exact val_pick _ _ _ rfl true h95 _ (by rw [if_pos rfl]; exact h104) ⟨rfl, trivial⟩
    · intro a W hE hb hs
      have h105 : a.eval (.tmp 105) = .bool true := hs 11 (by decide)
      refine flow0 rfl ?_
      exact val_move _ rfl _ h105 ⟨rfl, trivial⟩
    · intro a W hE hb hs
      have h12 : a.eval (.tmp 12) = .pointer (some ⟨X12, 0, none⟩) := hb 12 (by decide)
      have h106 : a.eval (.tmp 106) = .bool true := hs 12 (by decide)
      refine flowY rfl rfl h106 ?_
      exact val_load_row 26 _ rfl X12 0 h12 (sumC P) _ (Blk.range (HBX12.out.below (ext_below hE) HBX12.out.lt)) und32 rfl (by rw [sumC_len]; kernel_rfl) ⟨rfl, trivial⟩
    · intro a W hE hb hs
      have h16 : a.eval (.tmp 16) = .slice A1 (1 + len') c1 := hb 16 (by decide)
      have h106 : a.eval (.tmp 106) = .bool true := hs 12 (by decide)
      refine flowY rfl rfl h106 ?_
      exact val_move _ rfl _ h16 ⟨rfl, trivial⟩
    · intro a W hE hb hs
      have h14 : a.eval (.tmp 14) = .pointer (some ⟨X14, 0, none⟩) := hb 14 (by decide)
      have h106 : a.eval (.tmp 106) = .bool true := hs 12 (by decide)
      refine flowY rfl rfl h106 ?_
      intro K hK
      unfold Oper.wp execOp
      simp only [h14]
      simp [go_sem]
      exact hK _ _ ⟨Below.refl _ _, rfl, trivial⟩
    · intro a W hE hb hs
      have h109 : a.eval (.tmp 109) = .pointer (some ⟨X14, 0, none⟩) := hs 15 (by decide)
      have h106 : a.eval (.tmp 106) = .bool true := hs 12 (by decide)
      refine flowY rfl rfl h106 ?_
      exact val_load_row 37 _ rfl X14 0 h109 (sgV S.1.i C n c D m d) d37 (sgn_sig (HBX14.out.below (ext_below hE) HBX14.out.lt)) hd37 hrow37 (by rw [sgV_len]; kernel_rfl) ⟨rfl, trivial⟩
    · intro a W hE hb hs
      have h107 : a.eval (.tmp 107) = .agg (sumC P).toArray := hs 13 (by decide)
      have h108 : a.eval (.tmp 108) = .slice A1 (1 + len') c1 := hs 14 (by decide)
      have h110 : a.eval (.tmp 110) = .agg (sgV S.1.i C n c D m d).toArray := hs 16 (by decide)
      have h106 : a.eval (.tmp 106) = .bool true := hs 12 (by decide)
      refine flowY rfl rfl h106 ?_
      exact val_call 19 _ _ rfl (by kernel_rfl) [.agg (sumC P).toArray, .slice A1 (1 + len') c1, .agg (sgV S.1.i C n c D m d).toArray] (by show [a.eval (.tmp 107), a.eval (.tmp 108), a.eval (.tmp 110)] = _; rw [h107, h108, h110]) ((Verify_any P A1 (1 + len') c1 (b4 :: B) S.1.i C D n c m d S.1.ch S.1.pa W (Hg.out.below (ext_below hE)) (Hrd1.out.below (ext_below hE)) (by omega) (HC.out.below (ext_below hE)).1 (HD.out.below (ext_below hE)).1 hmd).mono (by rw [← HV2.out]; rintro e W' ⟨rfl, hb⟩; exact ⟨_, rfl, hb, rfl, trivial⟩))
    · intro a W hE hb hs
      have h12 : a.eval (.tmp 12) = .pointer (some ⟨X12, 0, none⟩) := hb 12 (by decide)
      have h106 : a.eval (.tmp 106) = .bool true := hs 12 (by decide)
      refine flowY rfl rfl h106 ?_
      exact val_load_row 26 _ rfl X12 0 h12 (sumC P) _ (Blk.range (HBX12.out.below (ext_below hE) HBX12.out.lt)) und32 rfl (by rw [sumC_len]; kernel_rfl) ⟨rfl, trivial⟩
    · intro a W hE hb hs
      have h16 : a.eval (.tmp 16) = .slice A1 (1 + len') c1 := hb 16 (by decide)
      have h106 : a.eval (.tmp 106) = .bool true := hs 12 (by decide)
      refine flowY rfl rfl h106 ?_
      exact val_move _ rfl _ h16 ⟨rfl, trivial⟩
    · intro a W hE hb hs
      have h14 : a.eval (.tmp 14) = .pointer (some ⟨X14, 0, none⟩) := hb 14 (by decide)
      have h106 : a.eval (.tmp 106) = .bool true := hs 12 (by decide)
      refine flowY rfl rfl h106 ?_
      intro K hK
      unfold Oper.wp execOp
      simp only [h14]
      simp [go_sem]
      exact hK _ _ ⟨Below.refl _ _, rfl, trivial⟩
    · intro a W hE hb hs
      have h114 : a.eval (.tmp 114) = .pointer (some ⟨X14, 0, none⟩) := hs 20 (by decide)
      have h106 : a.eval (.tmp 106) = .bool true := hs 12 (by decide)
      refine flowY rfl rfl h106 ?_
      exact val_load_row 37 _ rfl X14 0 h114 (sgV S.1.i C n c D m d) d37 (sgn_sig (HBX14.out.below (ext_below hE) HBX14.out.lt)) hd37 hrow37 (by rw [sgV_len]; kernel_rfl) ⟨rfl, trivial⟩
    · intro a W hE hb hs
      have h112 : a.eval (.tmp 112) = .agg (sumC P).toArray := hs 18 (by decide)
      have h113 : a.eval (.tmp 113) = .slice A1 (1 + len') c1 := hs 19 (by decide)
      have h115 : a.eval (.tmp 115) = .agg (sgV S.1.i C n c D m d).toArray := hs 21 (by decide)
      have h106 : a.eval (.tmp 106) = .bool true := hs 12 (by decide)
      refine flowY rfl rfl h106 ?_
      exact val_call 20 _ _ rfl (by kernel_rfl) [.agg (sumC P).toArray, .slice A1 (1 + len') c1, .agg (sgV S.1.i C n c D m d).toArray] (by show [a.eval (.tmp 112), a.eval (.tmp 113), a.eval (.tmp 115)] = _; rw [h112, h113, h115]) ((RVerify_any P A1 (1 + len') c1 (b4 :: B) S.1.i C D n c m d S.1.ch S.1.pa W (Hrd1.out.below (ext_below hE)) (by omega) (HC.out.below (ext_below hE)).1 (HD.out.below (ext_below hE)).1).mono (by rw [← HV2.out]; rintro e W' ⟨rfl, hb⟩; exact ⟨_, rfl, hb, rfl, trivial⟩))
    · intro a W hE hb hs
      have h111 : a.eval (.tmp 111) = .bool V2 := hs 17 (by decide)
      have h116 : a.eval (.tmp 116) = .bool V2 := hs 22 (by decide)
      have h106 : a.eval (.tmp 106) = .bool true := hs 12 (by decide)
      refine flowY rfl rfl h106 ?_
      intro K hK
      unfold Oper.wp execOp
      simp only [h111, h116]
      simp [go_sem]
      exact hK _ _ ⟨Below.refl _ _, rfl, trivial⟩
    · intro a W hE hb hs
      have h106 : a.eval (.tmp 106) = .bool true := hs 12 (by decide)
      have h117 : a.eval (.tmp 117) = .bool true := hs 23 (by decide)
      refine flow0 rfl ?_
      exact val_pick _ _ _ rfl true h106 _ (by rw [if_pos rfl]; exact h117) ⟨rfl, trivial⟩
    · intro a W hE hb hs
      have h118 : a.eval (.tmp 118) = .bool true := hs 24 (by decide)
      refine flow0 rfl ?_
      exact val_move _ rfl _ h118 ⟨rfl, trivial⟩
    · intro a W hE hb hs
      have h4 : a.eval (.tmp 4) = .pointer (some ⟨w.heap.size, 0, none⟩) := hb 4 (by decide)
      have h119 : a.eval (.tmp 119) = .bool true := hs 25 (by decide)
      refine flowY rfl rfl h119 ?_
      intro K hK
      unfold Oper.wp execOp
      simp only [h4, BigFrame.eval_const]
      simp [go_sem]
      exact hK _ _ ⟨Below.refl _ _, rfl, trivial⟩
    · intro a W hE hb hs
      have h120 : a.eval (.tmp 120) = .pointer (some ⟨w.heap.size, 4, none⟩) := hs 26 (by decide)
      have h119 : a.eval (.tmp 119) = .bool true := hs 25 (by decide)
      refine flowY rfl rfl h119 ?_
      have g0 : W.cell? ⟨w.heap.size, 4, none⟩ = some (.int .u8 (b4.toNat : Int)) := by rw [(HW.out.below (ext_below hE) HW.out.lt).cell]; rfl
      intro K hK
      unfold Oper.wp execOp
      simp only [h120]
      simp [go_sem, g0]
      exact hK _ _ ⟨Below.refl _ _, rfl, trivial⟩
    · intro a W hE hb hs
      have h121 : a.eval (.tmp 121) = .int .u8 (b4.toNat : Int) := hs 27 (by decide)
      have h119 : a.eval (.tmp 119) = .bool true := hs 25 (by decide)
      refine flowY rfl rfl h119 ?_
      exact val_build 26 _ rfl [(0, .int .u8 (b4.toNat : Int))] (by show [(0, a.eval (.tmp 121))] = _; rw [h121]) _ (bq) ⟨rfl, trivial⟩
    · intro a W hE hb hs
      have h9 : a.eval (.tmp 9) = .slice A len' cap := hb 9 (by decide)
      have h119 : a.eval (.tmp 119) = .bool true := hs 25 (by decide)
      refine flowY rfl rfl h119 ?_
      exact val_move _ rfl _ h9 ⟨rfl, trivial⟩
    · intro a W hE hb hs
      have h14 : a.eval (.tmp 14) = .pointer (some ⟨X14, 0, none⟩) := hb 14 (by decide)
      have h119 : a.eval (.tmp 119) = .bool true := hs 25 (by decide)
      refine flowY rfl rfl h119 ?_
      intro K hK
      unfold Oper.wp execOp
      simp only [h14]
      simp [go_sem]
      exact hK _ _ ⟨Below.refl _ _, rfl, trivial⟩
    · intro a W hE hb hs
      have h124 : a.eval (.tmp 124) = .pointer (some ⟨X14, 0, none⟩) := hs 30 (by decide)
      have h119 : a.eval (.tmp 119) = .bool true := hs 25 (by decide)
      refine flowY rfl rfl h119 ?_
      exact val_load_row 37 _ rfl X14 0 h124 (sgV S.1.i C n c D m d) d37 (sgn_sig (HBX14.out.below (ext_below hE) HBX14.out.lt)) hd37 hrow37 (by rw [sgV_len]; kernel_rfl) ⟨rfl, trivial⟩
    · intro a W hE hb hs
      have h122 : a.eval (.tmp 122) = .agg (sumC (shaB b4)).toArray := hs 28 (by decide)
      have h123 : a.eval (.tmp 123) = .slice A len' cap := hs 29 (by decide)
      have h125 : a.eval (.tmp 125) = .agg (sgV S.1.i C n c D m d).toArray := hs 31 (by decide)
      have h119 : a.eval (.tmp 119) = .bool true := hs 25 (by decide)
      refine flowY rfl rfl h119 ?_
      exact val_call 19 _ _ rfl (by kernel_rfl) [.agg (sumC (shaB b4)).toArray, .slice A len' cap, .agg (sgV S.1.i C n c D m d).toArray] (by show [a.eval (.tmp 122), a.eval (.tmp 123), a.eval (.tmp 125)] = _; rw [h122, h123, h125]) ((Verify_any (shaB b4) A len' cap B S.1.i C D n c m d S.1.ch S.1.pa W (Hg.out.below (ext_below hE)) (Hb.out.below (ext_below hE)) (by omega) (HC.out.below (ext_below hE)).1 (HD.out.below (ext_below hE)).1 hmd).mono (by rw [← HV3.out]; rintro e W' ⟨rfl, hb⟩; exact ⟨_, rfl, hb, rfl, trivial⟩))
    · intro a W hE hb hs
      have h4 : a.eval (.tmp 4) = .pointer (some ⟨w.heap.size, 0, none⟩) := hb 4 (by decide)
      have h119 : a.eval (.tmp 119) = .bool true := hs 25 (by decide)
      refine flowY rfl rfl h119 ?_
      intro K hK
      unfold Oper.wp execOp
      simp only [h4, BigFrame.eval_const]
      simp [go_sem]
      exact hK _ _ ⟨Below.refl _ _, rfl, trivial⟩
    · intro a W hE hb hs
      have h127 : a.eval (.tmp 127) = .pointer (some ⟨w.heap.size, 4, none⟩) := hs 33 (by decide)
      have h119 : a.eval (.tmp 119) = .bool true := hs 25 (by decide)
      refine flowY rfl rfl h119 ?_
      have g0 : W.cell? ⟨w.heap.size, 4, none⟩ = some (.int .u8 (b4.toNat : Int)) := by rw [(HW.out.below (ext_below hE) HW.out.lt).cell]; rfl
      intro K hK
      unfold Oper.wp execOp
      simp only [h127]
      simp [go_sem, g0]
      exact hK _ _ ⟨Below.refl _ _, rfl, trivial⟩
    · intro a W hE hb hs
      have h128 : a.eval (.tmp 128) = .int .u8 (b4.toNat : Int) := hs 34 (by decide)
      have h119 : a.eval (.tmp 119) = .bool true := hs 25 (by decide)
      refine flowY rfl rfl h119 ?_
      exact val_build 26 _ rfl [(0, .int .u8 (b4.toNat : Int))] (by show [(0, a.eval (.tmp 128))] = _; rw [h128]) _ (bq) ⟨rfl, trivial⟩
    · intro a W hE hb hs
      have h9 : a.eval (.tmp 9) = .slice A len' cap := hb 9 (by decide)
      have h119 : a.eval (.tmp 119) = .bool true := hs 25 (by decide)
      refine flowY rfl rfl h119 ?_
      exact val_move _ rfl _ h9 ⟨rfl, trivial⟩
    · intro a W hE hb hs
      have h14 : a.eval (.tmp 14) = .pointer (some ⟨X14, 0, none⟩) := hb 14 (by decide)
      have h119 : a.eval (.tmp 119) = .bool true := hs 25 (by decide)
      refine flowY rfl rfl h119 ?_
      intro K hK
      unfold Oper.wp execOp
      simp only [h14]
      simp [go_sem]
      exact hK _ _ ⟨Below.refl _ _, rfl, trivial⟩
    · intro a W hE hb hs
      have h131 : a.eval (.tmp 131) = .pointer (some ⟨X14, 0, none⟩) := hs 37 (by decide)
      have h119 : a.eval (.tmp 119) = .bool true := hs 25 (by decide)
      refine flowY rfl rfl h119 ?_
      exact val_load_row 37 _ rfl X14 0 h131 (sgV S.1.i C n c D m d) d37 (sgn_sig (HBX14.out.below (ext_below hE) HBX14.out.lt)) hd37 hrow37 (by rw [sgV_len]; kernel_rfl) ⟨rfl, trivial⟩
    · intro a W hE hb hs
      have h129 : a.eval (.tmp 129) = .agg (sumC (shaB b4)).toArray := hs 35 (by decide)
      have h130 : a.eval (.tmp 130) = .slice A len' cap := hs 36 (by decide)
      have h132 : a.eval (.tmp 132) = .agg (sgV S.1.i C n c D m d).toArray := hs 38 (by decide)
      have h119 : a.eval (.tmp 119) = .bool true := hs 25 (by decide)
      refine flowY rfl rfl h119 ?_
      exact val_call 20 _ _ rfl (by kernel_rfl) [.agg (sumC (shaB b4)).toArray, .slice A len' cap, .agg (sgV S.1.i C n c D m d).toArray] (by show [a.eval (.tmp 129), a.eval (.tmp 130), a.eval (.tmp 132)] = _; rw [h129, h130, h132]) ((RVerify_any (shaB b4) A len' cap B S.1.i C D n c m d S.1.ch S.1.pa W (Hb.out.below (ext_below hE)) (by omega) (HC.out.below (ext_below hE)).1 (HD.out.below (ext_below hE)).1).mono (by rw [← HV3.out]; rintro e W' ⟨rfl, hb⟩; exact ⟨_, rfl, hb, rfl, trivial⟩))
    · intro a W hE hb hs
      have h126 : a.eval (.tmp 126) = .bool V3 := hs 32 (by decide)
      have h133 : a.eval (.tmp 133) = .bool V3 := hs 39 (by decide)
      have h119 : a.eval (.tmp 119) = .bool true := hs 25 (by decide)
      refine flowY rfl rfl h119 ?_
      intro K hK
      unfold Oper.wp execOp
      simp only [h126, h133]
      simp [go_sem]
      exact hK _ _ ⟨Below.refl _ _, rfl, trivial⟩
    · intro a W hE hb hs
      have h119 : a.eval (.tmp 119) = .bool true := hs 25 (by decide)
      have h134 : a.eval (.tmp 134) = .bool true := hs 40 (by decide)
      refine flow0 rfl ?_
      exact val_pick _ _ _ rfl true h119 _ (by rw [if_pos rfl]; exact h134) ⟨rfl, trivial⟩
    · intro a W hE hb hs
      have h135 : a.eval (.tmp 135) = .bool true := hs 41 (by decide)
      refine flow0 rfl ?_
      exact val_assign _ rfl _ h135 ⟨rfl, trivial⟩
  intro f W hb hT hp hd
  have e6 : f 6 = .bool true := hT 42 (by decide)
  simp only [putV, List.foldl_cons, List.foldl_nil, Act.put, List.setIfInBounds_toArray, List.set_cons_succ, List.set_cons_zero, Exit.then]
  rw [e6]
  have HE := Lib.hid (HB.out.trans (hb.mono HB.out.size))
  clear hb hT hp hd e6
  go_wp2_with fail
  go_ret
  exact ⟨rfl, HE.out⟩
end Go.Proofs.YtfdhiilhjfbehaaDoor
