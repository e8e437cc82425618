/- SignVerifies: what is signed is accepted. -/
import Derived.Test.YtfdhiilhjfbehaaDoorS23
namespace Go.Proofs.YtfdhiilhjfbehaaDoor
open Go.RowKit Go.Sort

theorem pub_ok {k : Sc} (h : validS k = true) : (pubS k).2 = 0 := by unfold pubS; rw [if_pos h]
theorem secS_valid (bs : List UInt8) (a b : UInt8) : ∃ H N : Nat, (secS bs a b).h = (H : Int) ∧ H ≤ 1 ∧ (secS bs a b).n = (N : Int) ∧ N ≤ 2 ^ H ∧ validS (secS bs a b) = true := by
  have hH : a.toNat % 2 ≤ 1 := by omega
  have hN : b.toNat % (2 ^ (a.toNat % 2) + 1) ≤ 2 ^ (a.toNat % 2) := by
    have := Nat.mod_lt b.toNat (Nat.succ_pos (2 ^ (a.toNat % 2)))
    exact Nat.lt_succ_iff.1 this
  refine ⟨_, _, rfl, hH, rfl, hN, ?_⟩
  unfold validS secS
  rw [decide_eq_true_eq]
  refine ⟨by dsimp only; omega, by dsimp only; omega, by dsimp only; omega, ?_⟩
  dsimp only
  rw [Int.toNat_natCast]
  exact_mod_cast hN
theorem toNat_of {h : Int} {H : Nat} (e : h = (H : Int)) : h.toNat = H := by rw [e, Int.toNat_natCast]
theorem sign_used {k : Sc} (bs : List UInt8) {H N : Nat} (hv : validS k = true) (e3 : k.n = (N : Int)) (e1 : k.h = (H : Int)) (hN : N = 2 ^ H) : signS k bs = (sg0, sc0, 160) := by
  unfold signS
  rw [if_pos hv, if_pos (by rw [e3, toNat_of e1, hN]; push_cast; rfl)]
theorem sign_ok {k : Sc} (bs : List UInt8) {H N : Nat} (hv : validS k = true) (e3 : k.n = (N : Int)) (e1 : k.h = (H : Int)) (hN : N < 2 ^ H) : ∃ ch pa, signS k bs = (⟨(N : Int), ch, pa⟩, ⟨k.s, k.h, (N : Int) + 1⟩, 0) ∧ ch.length = 67 ∧ pa.length = H ∧ verS (pubS k).1 bs ⟨(N : Int), ch, pa⟩ = true := by
  have h := sign_of bs hv e3 (toNat_of e1) hN
  have hne : k.n ≠ 2 ^ k.h.toNat := fun e => by
    rw [e3, toNat_of e1] at e
    have : N = 2 ^ H := by exact_mod_cast e
    omega
  have hve := ver_sign (body := bs) hv hne
  rw [h] at hve
  refine ⟨_, _, h, chainK_len _ _ _ _, ?_, hve⟩
  have hl : ((keysS k.s (2 ^ H)).map leafS).length = 2 ^ H := by rw [List.length_map, keysS_len]
  exact proofL_exact H _ N hl (by rw [hl]; exact hN)

set_option maxRecDepth 100000 in
set_option maxHeartbeats 1000000 in
theorem SignVerifies_any (As : Option Addr) (ls cs : Nat) (bs : List UInt8) (a b : UInt8) (A : Option Addr) (len cap : Nat) (bs2 : List UInt8) (w : World) (hg : Globs w) (hrs : Rd w 1 As ls (bs.map byteV)) (hr : Rd w 1 A len (bs2.map byteV)) (hlc : len ≤ cap) :
    Calls Tryd.prog 4 #[.slice As ls cs, .agg #[byteV a, byteV b], .slice A len cap] w fun e w' => e = .returned (.bool true) ∧ Below w.heap.size w w' := by
  obtain ⟨i32, hi32, hz32, hs32, hy32⟩ := info_parts info32
  obtain ⟨i37, hi37, hz37, _, _⟩ := info_parts info37
  obtain ⟨i28, hi28, hz28, _, _⟩ := info_parts info28
  obtain ⟨i39, hi39, hz39, _, _⟩ := info_parts info39
  obtain ⟨d28, hd28, hrow28⟩ := und28
  obtain ⟨d37, hd37, hrow37⟩ := und37
  obtain ⟨d39, hd39, hrow39⟩ := und39
  unfold byteV
  go_enter Tryd.func4, Tryd.ntmps4
  go_upto_region 1 with fail
  obtain ⟨w1, hw1⟩ : ∃ v, v = w.alloc (.cells #[.int .u8 (a.toNat : Int), .int .u8 (b.toNat : Int)] 30) := ⟨_, rfl⟩
  have hB1 : Below w.heap.size w w1 := by rw [hw1]; exact (Below.refl _ _).alloc (Nat.le_refl _) _
  have hX1 : Blk w1 w.heap.size 30 #[.int .u8 (a.toNat : Int), .int .u8 (b.toNat : Int)] := by rw [hw1]; exact Blk.new _ _ _
  rw [← hw1]
  clear hw1
  have HB := Lib.hid hB1
  have HW := Lib.hid hX1
  have Hg := Lib.hid (hg.below hB1)
  have Hg0 := Lib.hid hg
  have Hr0 := Lib.hid hr
  have Hs := Lib.hid (hrs.below hB1)
  have Hr := Lib.hid (hr.below hB1)
  clear hB1 hX1 hg hrs hr
  go_upto_region 2 with fail
  refine (sanity_any w1 Hg.out).mono ?_
  rintro e v1 ⟨rfl, hb_⟩
  replace HB := Lib.hid (HB.out.trans (hb_.mono HB.out.size))
  replace HW := Lib.hid (HW.out.below hb_ HW.out.lt)
  replace Hg := Lib.hid (Hg.out.below hb_)
  replace Hs := Lib.hid (Hs.out.below hb_)
  replace Hr := Lib.hid (Hr.out.below hb_)
  clear hb_
  have Hrg := Lib.hid (Blk.range (cs := [.int .u8 (a.toNat : Int), .int .u8 (b.toNat : Int)]) HW.out)
  go_upto_region 3 with (refine wpList_load_mid rfl 30 (.tmp 4) rfl w.heap.size 0 rfl [.int .u8 (a.toNat : Int), .int .u8 (b.toNat : Int)] _ Hrg.out Tryd.underlying30 rfl (by kernel_rfl) ?_)
  refine (Secret_any As ls cs bs a b v1 Hs.out).mono ?_
  rintro e v2 ⟨rfl, hb_⟩
  replace HB := Lib.hid (HB.out.trans (hb_.mono HB.out.size))
  replace HW := Lib.hid (HW.out.below hb_ HW.out.lt)
  replace Hg := Lib.hid (Hg.out.below hb_)
  replace Hs := Lib.hid (Hs.out.below hb_)
  replace Hr := Lib.hid (Hr.out.below hb_)
  clear hb_
  clear Hrg
  obtain ⟨k, hk⟩ : ∃ k, k = secS bs a b := ⟨_, rfl⟩
  rw [← hk]
  obtain ⟨H, N, e1, hH, e3, hN, hv⟩ := secS_valid bs a b
  rw [← hk] at e1 e3 hv
  have E1 := Lib.hid e1
  have E3 := Lib.hid e3
  have HV := Lib.hid hv
  clear hk e1 e3 hv
  clear HW Hs
  obtain ⟨v3a, hv3a⟩ : ∃ v, v = (v2.alloc (.cells (secV sc0).toArray 28)) := ⟨_, rfl⟩
  obtain ⟨X8, hX8⟩ : ∃ v, v = v2.heap.size := ⟨_, rfl⟩
  have hNX8 : Blk (v2.alloc (.cells (secV sc0).toArray 28)) X8 28 (secV sc0).toArray := by
    have := Blk.new v2 28 (secV sc0).toArray
    skip
    rw [hX8]; exact this
  rw [← hv3a] at hNX8
  have hbA : Below v2.heap.size v2 v3a := by
    rw [hv3a]; exact (Below.refl _ _).alloc (by simp) _
  have HNX8 := Lib.hid hNX8
  have hkX8 := (KeptIn.refl (fun b => b ≠ X8) v3a).setRow (g := X8) (fun h => h rfl) (secV k).toArray
  replace hNX8 : Blk (v3a.setRow X8 (secV k).toArray) X8 28 (secV k).toArray := setRow_heap _ _ _ _ _ _ HNX8.out
  obtain ⟨v3, hv3⟩ : ∃ v, v = (v3a.setRow X8 (secV k).toArray) := ⟨_, rfl⟩
  have hbB : Below v2.heap.size v2 v3 := by rw [hv3]; exact (Below.setRow hbA (show v2.heap.size ≤ X8 by omega) _)
  rw [← hv3] at hNX8
  have HBX8 := Lib.hid hNX8
  have Hv3a := Lib.hid hv3a
  have Hv3 := Lib.hid hv3
  have HEX8 := Lib.hid hX8
  clear hNX8 hkX8 hv3a hv3 hbA
  have hlX8 : w.heap.size ≤ X8 := by have := HB.out.size; omega
  clear hX8
  go_upto_region 3 with (first | (refine wpList_alloc0 rfl 28 rfl (secV sc0).toArray _ i28 hi28 hz28 rfl ?_; simp only [Act.put, List.setIfInBounds_toArray, List.set_cons_succ, List.set_cons_zero]; try simp only [World.size_alloc]) | (rw [← Hv3a.out, ← HEX8.out]; refine wpList_store_row rfl 28 (.tmp 8) (.tmp 16) rfl X8 (secV k).toArray rfl rfl 28 _ HNX8.out (size28 _ (sec_size _)) ((sec_size _).trans (sec_size _).symm) (sec_one _) ?_; rw [← Hv3.out]))
  replace HB := Lib.hid (HB.out.trans (hbB.mono HB.out.size))
  replace Hg := Lib.hid (Hg.out.below hbB)
  replace Hr := Lib.hid (Hr.out.below hbB)
  clear hbB
  clear HNX8 HEX8 Hv3a Hv3
  go_upto_region 4 with fail
  refine (Limited_any A len cap 200 bs2 v3 Hr.out hlc (by omega)).mono ?_
  rintro e v4 ⟨⟨len', rfl, hl1, hl2, hr'⟩, hw'⟩
  subst hw'
  obtain ⟨B, hB⟩ : ∃ B, B = bs2.take 200 := ⟨_, rfl⟩
  rw [← hB] at hr'
  have Hb := Lib.hid hr'
  have HBl := Lib.hid (show len' ≤ bs2.length by have := hr'.len1; rw [hB, List.length_take] at this; omega)
  clear hr' hB
  clear Hr
  have Hk := Lib.hid (Blk.range HBX8.out)
  have hp := pub_ok HV.out
  go_upto_region 5 with (refine wpList_load_mid rfl 28 (.tmp 8) rfl X8 0 rfl (secV k) d28 Hk.out hd28 hrow28 (by rw [secV_len]; kernel_rfl) ?_)
  refine (Public_any k v4 Hg.out).mono ?_
  rintro e v5 ⟨rfl, hb_⟩
  replace HB := Lib.hid (HB.out.trans (hb_.mono HB.out.size))
  replace Hg := Lib.hid (Hg.out.below hb_)
  replace HBX8 := Lib.hid (HBX8.out.below hb_ HBX8.out.lt)
  replace Hb := Lib.hid (Hb.out.below hb_)
  clear hb_
  rw [hp]
  clear Hk
  obtain ⟨P, hP⟩ : ∃ P, P = (pubS k).1 := ⟨_, rfl⟩
  rw [← hP]
  have HP := Lib.hid hP
  clear hP hp
  obtain ⟨v6a, hv6a⟩ : ∃ v, v = (v5.alloc (.cells zero32 26)) := ⟨_, rfl⟩
  obtain ⟨X10, hX10⟩ : ∃ v, v = v5.heap.size := ⟨_, rfl⟩
  have hNX10 : Blk (v5.alloc (.cells zero32 26)) X10 26 zero32 := by
    have := Blk.new v5 26 zero32
    skip
    rw [hX10]; exact this
  rw [← hv6a] at hNX10
  have hbA : Below v5.heap.size v5 v6a := by
    rw [hv6a]; exact (Below.refl _ _).alloc (by simp) _
  have HNX10 := Lib.hid hNX10
  have hkX10 := (KeptIn.refl (fun b => b ≠ X10) v6a).setRow (g := X10) (fun h => h rfl) (sumC P).toArray
  replace hNX10 : Blk (v6a.setRow X10 (sumC P).toArray) X10 26 (sumC P).toArray := setRow_heap _ _ _ _ _ _ HNX10.out
  obtain ⟨v6, hv6⟩ : ∃ v, v = (v6a.setRow X10 (sumC P).toArray) := ⟨_, rfl⟩
  have hbB : Below v5.heap.size v5 v6 := by rw [hv6]; exact (Below.setRow hbA (show v5.heap.size ≤ X10 by omega) _)
  rw [← hv6] at hNX10
  have HBX10 := Lib.hid hNX10
  have Hv6a := Lib.hid hv6a
  have Hv6 := Lib.hid hv6
  have HEX10 := Lib.hid hX10
  clear hNX10 hkX10 hv6a hv6 hbA
  have hlX10 : w.heap.size ≤ X10 := by have := HB.out.size; omega
  clear hX10
  go_upto_region 5 with (first | (refine wpList_alloc0 rfl 26 rfl zero32 _ i32 hi32 hz32 rfl ?_; simp only [Act.put, List.setIfInBounds_toArray, List.set_cons_succ, List.set_cons_zero]; try simp only [World.size_alloc]) | (rw [← Hv6a.out, ← HEX10.out]; refine wpList_store_row rfl 26 (.tmp 10) (.tmp 22) rfl X10 (sumC P).toArray rfl rfl 26 _ HNX10.out (size32 _ (sum_size _)) ((zero32_size).trans (sum_size _).symm) (all_oneCell_toArray (oneB _)) ?_; rw [← Hv6.out]))
  replace HB := Lib.hid (HB.out.trans (hbB.mono HB.out.size))
  replace Hg := Lib.hid (Hg.out.below hbB)
  replace HBX8 := Lib.hid (HBX8.out.below hbB HBX8.out.lt)
  replace Hb := Lib.hid (Hb.out.below hbB)
  clear hbB
  clear HNX10 HEX10 Hv6a Hv6
  have Hk := Lib.hid (Blk.range HBX8.out)
  go_upto_region 6 with (refine wpList_load_mid rfl 28 (.tmp 8) rfl X8 0 rfl (secV k) d28 Hk.out hd28 hrow28 (by rw [secV_len]; kernel_rfl) ?_)
  obtain ⟨S, hS⟩ : ∃ S, S = signS k B := ⟨_, rfl⟩
  have hmade := made_any k A len' cap B v6 Hg.out Hb.out (by omega)
  rw [← hS] at hmade
  have HS := Lib.hid hS
  have Hmade := Lib.hid hmade
  clear hmade hS Hk
  refine (Hmade.out).mono ?_
  rintro e v7 ⟨⟨C, n, c, D, m, d, rfl, hnc, hmd, hC, hD⟩, hb_⟩
  replace HB := Lib.hid (HB.out.trans (hb_.mono HB.out.size))
  replace Hg := Lib.hid (Hg.out.below hb_)
  replace HBX8 := Lib.hid (HBX8.out.below hb_ HBX8.out.lt)
  replace Hb := Lib.hid (Hb.out.below hb_)
  replace HBX10 := Lib.hid (HBX10.out.below hb_ HBX10.out.lt)
  clear hb_
  have HC := Lib.hid hC
  have HD := Lib.hid hD
  clear hC hD Hmade
  obtain ⟨v8a, hv8a⟩ : ∃ v, v = (v7.alloc (.cells (sgnV 0 none 0 0 none 0 0 sc0 0).toArray 39)) := ⟨_, rfl⟩
  obtain ⟨X12, hX12⟩ : ∃ v, v = v7.heap.size := ⟨_, rfl⟩
  have hNX12 : Blk (v7.alloc (.cells (sgnV 0 none 0 0 none 0 0 sc0 0).toArray 39)) X12 39 (sgnV 0 none 0 0 none 0 0 sc0 0).toArray := by
    have := Blk.new v7 39 (sgnV 0 none 0 0 none 0 0 sc0 0).toArray
    skip
    rw [hX12]; exact this
  rw [← hv8a] at hNX12
  have hbA : Below v7.heap.size v7 v8a := by
    rw [hv8a]; exact (Below.refl _ _).alloc (by simp) _
  have HNX12 := Lib.hid hNX12
  have hkX12 := (KeptIn.refl (fun b => b ≠ X12) v8a).setRow (g := X12) (fun h => h rfl) (sgnV S.1.i C n c D m d S.2.1 S.2.2).toArray
  replace hNX12 : Blk (v8a.setRow X12 (sgnV S.1.i C n c D m d S.2.1 S.2.2).toArray) X12 39 (sgnV S.1.i C n c D m d S.2.1 S.2.2).toArray := setRow_heap _ _ _ _ _ _ HNX12.out
  obtain ⟨v8, hv8⟩ : ∃ v, v = (v8a.setRow X12 (sgnV S.1.i C n c D m d S.2.1 S.2.2).toArray) := ⟨_, rfl⟩
  have hbB : Below v7.heap.size v7 v8 := by rw [hv8]; exact (Below.setRow hbA (show v7.heap.size ≤ X12 by omega) _)
  rw [← hv8] at hNX12
  have HBX12 := Lib.hid hNX12
  have Hv8a := Lib.hid hv8a
  have Hv8 := Lib.hid hv8
  have HEX12 := Lib.hid hX12
  clear hNX12 hkX12 hv8a hv8 hbA
  have hlX12 : w.heap.size ≤ X12 := by have := HB.out.size; omega
  clear hX12
  go_upto_region 6 with (first | (refine wpList_alloc0 rfl 39 rfl (sgnV 0 none 0 0 none 0 0 sc0 0).toArray _ i39 hi39 hz39 rfl ?_; simp only [Act.put, List.setIfInBounds_toArray, List.set_cons_succ, List.set_cons_zero]; try simp only [World.size_alloc]) | (rw [← Hv8a.out, ← HEX12.out]; refine wpList_store_row rfl 39 (.tmp 12) (.tmp 26) rfl X12 (sgnV S.1.i C n c D m d S.2.1 S.2.2).toArray rfl rfl 39 _ HNX12.out (size39 _ (sgn_size _ _ _ _ _ _ _ _ _)) ((sgn_size _ _ _ _ _ _ _ _ _).trans (sgn_size _ _ _ _ _ _ _ _ _).symm) (sgn_one _ _ _ _ _ _ _ _ _) ?_; rw [← Hv8.out]))
  replace HB := Lib.hid (HB.out.trans (hbB.mono HB.out.size))
  replace Hg := Lib.hid (Hg.out.below hbB)
  replace HBX8 := Lib.hid (HBX8.out.below hbB HBX8.out.lt)
  replace Hb := Lib.hid (Hb.out.below hbB)
  replace HBX10 := Lib.hid (HBX10.out.below hbB HBX10.out.lt)
  replace HC := Lib.hid (HC.out.below hbB)
  replace HD := Lib.hid (HD.out.below hbB)
  clear hbB
  clear HNX12 HEX12 Hv8a Hv8
  go_upto_region 8 with fail
  obtain ⟨M, hM⟩ : ∃ M, M = 2 ^ H := ⟨_, rfl⟩
  have hsh : IntKind.i64.wrap (2 ^ H) = (M : Int) := by rw [hM]; rcases (show H = 0 ∨ H = 1 by omega) with rfl | rfl <;> rfl
  rw [← hM] at hN
  have HM := Lib.hid hM
  have hM2 : M ≤ 2 := by rw [hM]; rcases (show H = 0 ∨ H = 1 by omega) with rfl | rfl <;> decide
  have c1 : v8.cell? ⟨X8, 32, none⟩ = some (.int .i64 (H : Int)) := by rw [HBX8.out.cell, List.getElem?_toArray, sec_h, E1.out]
  have c2 : v8.cell? ⟨X8, 33, none⟩ = some (.int .i64 (N : Int)) := by rw [HBX8.out.cell, List.getElem?_toArray, sec_n, E3.out]
  clear hM
  by_cases hNM : N = M
  · skip
    have dd : ((N : Int) == (M : Int)) = true := by rw [beq_iff_eq]; omega
    go_quiet (fail)
    obtain ⟨v9, hv9⟩ : ∃ v, v = v8.drewN nq := ⟨_, rfl⟩
    have hb_ : Below v8.heap.size v8 v9 := by rw [hv9]; exact below_drewN (Below.refl _ _) _
    rw [← hv9]
    clear hv9 c1 c2 dd hsh
    replace HB := Lib.hid (HB.out.trans (hb_.mono HB.out.size))
    replace Hg := Lib.hid (Hg.out.below hb_)
    replace HBX8 := Lib.hid (HBX8.out.below hb_ HBX8.out.lt)
    replace Hb := Lib.hid (Hb.out.below hb_)
    replace HBX10 := Lib.hid (HBX10.out.below hb_ HBX10.out.lt)
    replace HC := Lib.hid (HC.out.below hb_)
    replace HD := Lib.hid (HD.out.below hb_)
    replace HBX12 := Lib.hid (HBX12.out.below hb_ HBX12.out.lt)
    clear hb_
    have HSv := Lib.hid (show S = (sg0, sc0, 160) by rw [HS.out]; exact sign_used B HV.out E3.out E1.out (by rw [hNM, HM.out]))
    have Hsg := Lib.hid (sgn_sig HBX12.out)
    have Hsc := Lib.hid (sgn_sec HBX12.out)
    have f1 := sgn_st HBX12.out
    rw [HSv.out] at f1 Hsg Hsc
    dsimp only [sg0] at f1 Hsg Hsc
    have hz := run_eql_sec sc0 sc0
    rw [show decide (sc0 = sc0) = true from decide_eq_true rfl] at hz
    go_wp2_with (first | (refine wpList_load_mid_g (by first | rfl | simp [Region.wanted, yielded]) 28 (.tmp 42) rfl X12 3 rfl (secV sc0) d28 Hsc.out hd28 hrow28 (by rw [secV_len]; kernel_rfl) ?_) | (refine wpList_load_mid_g (by first | rfl | simp [Region.wanted, yielded]) 37 (.tmp 48) rfl X12 0 rfl (sgV 0 C n c D m d) d37 Hsg.out hd37 hrow37 (by rw [sgV_len]; kernel_rfl) ?_) | (refine wpList_buildN_g (by first | rfl | simp [Region.wanted, yielded]) 28 _ rfl [] rfl _ built28z ?_) | (refine wpList_buildN_g (by first | rfl | simp [Region.wanted, yielded]) 37 _ rfl [] rfl _ built37z ?_))
    clear f1 hz
    have hC0 := HC.out.1
    have hD0 := HD.out.1
    rw [HSv.out] at hC0 hD0
    have l1 := hC0.lenf sumC_len (by omega)
    have l2 := hD0.lenf sumC_len (by omega)
    dsimp only [sg0, List.length_nil] at l1 l2
    refine (Same16_any 0 0 C D none none n c m d 0 0 0 0 [] [] [] [] v9 hC0 hD0 (rd_nil _) (rd_nil _) (by omega) (by omega) (by omega) (by omega)).mono ?_
    rintro e v10 ⟨rfl, hb_⟩
    replace HB := Lib.hid (HB.out.trans (hb_.mono HB.out.size))
    replace Hg := Lib.hid (Hg.out.below hb_)
    replace HBX8 := Lib.hid (HBX8.out.below hb_ HBX8.out.lt)
    replace Hb := Lib.hid (Hb.out.below hb_)
    replace HBX10 := Lib.hid (HBX10.out.below hb_ HBX10.out.lt)
    replace HC := Lib.hid (HC.out.below hb_)
    replace HD := Lib.hid (HD.out.below hb_)
    replace HBX12 := Lib.hid (HBX12.out.below hb_ HBX12.out.lt)
    clear hb_
    rw [show decide ((0 : Int) = 0 ∧ ([] : List Sum32) = [] ∧ ([] : List Sum32) = []) = true by decide]
    go_wp2_with fail
    go_ret
    exact ⟨rfl, HB.out⟩
  have dd : ((N : Int) == (M : Int)) = false := by rw [beq_eq_false_iff_ne]; omega
  go_quiet (fail)
  obtain ⟨v9, hv9⟩ : ∃ v, v = v8.drewN nq := ⟨_, rfl⟩
  have hb_ : Below v8.heap.size v8 v9 := by rw [hv9]; exact below_drewN (Below.refl _ _) _
  rw [← hv9]
  clear hv9 c1 c2 dd hsh
  replace HB := Lib.hid (HB.out.trans (hb_.mono HB.out.size))
  replace Hg := Lib.hid (Hg.out.below hb_)
  replace HBX8 := Lib.hid (HBX8.out.below hb_ HBX8.out.lt)
  replace Hb := Lib.hid (Hb.out.below hb_)
  replace HBX10 := Lib.hid (HBX10.out.below hb_ HBX10.out.lt)
  replace HC := Lib.hid (HC.out.below hb_)
  replace HD := Lib.hid (HD.out.below hb_)
  replace HBX12 := Lib.hid (HBX12.out.below hb_ HBX12.out.lt)
  clear hb_
  have hNM' : N < 2 ^ H := by rw [← HM.out]; omega
  obtain ⟨ch, pa, hSv, hcl, hpl, hver⟩ := sign_ok B HV.out E3.out E1.out hNM'
  rw [← HS.out] at hSv
  rw [← HP.out] at hver
  subst hSv
  dsimp only at HC HD HBX12
  have Hver := Lib.hid hver
  clear HS hver
  have c2 : v9.cell? ⟨X8, 33, none⟩ = some (.int .i64 (N : Int)) := by rw [HBX8.out.cell, List.getElem?_toArray, sec_n, E3.out]
  have fr2 := HBX8.out.frozen 33
  have wN : IntKind.i64.wrap ((N : Int) + 1) = (N : Int) + 1 := by simp [IntKind.wrap, IntKind.bits, IntKind.signed]; omega
  go_upto_region 11 with fail
  obtain ⟨v10, hv10⟩ : ∃ v, v = v9.setCell ⟨X8, 33, none⟩ (.int .i64 ((N : Int) + 1)) := ⟨_, rfl⟩
  rw [← hv10]
  obtain ⟨k2, hk2⟩ : ∃ k2 : Sc, k2 = ⟨k.s, k.h, (N : Int) + 1⟩ := ⟨_, rfl⟩
  rw [← hk2]
  rw [← hk2] at HBX12
  have HK2 := Lib.hid hk2
  have hkx := (KeptIn.refl (fun b => b ≠ X8) v9).setAt (p := ⟨X8, 33, none⟩) (fun h => h rfl) (.int .i64 ((N : Int) + 1))
  rw [← hv10] at hkx
  have hX8 : Blk v10 X8 28 (secV k2).toArray := by
    have := heap_setCell_same v9 X8 33 _ 28 (.int .i64 ((N : Int) + 1)) HBX8.out
    rw [sec_set] at this
    rw [hv10, hk2]; exact this
  have hX10 := Lib.hid (HBX10.out.keptIn hkx (HBX10.out.ne HBX8.out (by decide)))
  have hX12 := Lib.hid (HBX12.out.keptIn hkx (HBX12.out.ne HBX8.out (by decide)))
  have hg1 := Hg0.out.size
  replace Hg := Lib.hid (show Globs _ from Hg.out.keptIn hkx (show (0 : Nat) ≠ X8 by omega) (show (1 : Nat) ≠ X8 by omega))
  have Hb2 := Lib.hid (Hb.out.keptIn hkx (fun b off h0 e => by have := Hr0.out.len1; have h3 := HBl.out; have := Hr0.out.lt (by omega) (show 0 < len by omega) e; omega))
  have HC2 := Lib.hid (HC.out.kept HBX8.out (by decide) hkx)
  have HD2 := Lib.hid (HD.out.kept HBX8.out (by decide) hkx)
  have HB2 := Lib.hid (show Below w.heap.size w v10 by rw [hv10]; exact Below.setCell HB.out (by omega) _)
  have HX8 := Lib.hid hX8
  clear hv10 hk2 hkx hX8 c2 fr2 wN Hb HC HD HB HBX8 HBX10 HBX12
  have Hsc := Lib.hid (sgn_sec hX12.out)
  have f1 := sgn_st hX12.out
  have Hsg := Lib.hid (sgn_sig hX12.out)
  have f0 : v10.cell? ⟨X12, 0, none⟩ = some (.int .i64 (N : Int)) := by rw [hX12.out.cell]; rfl
  have c2 : v10.cell? ⟨X8, 33, none⟩ = some (.int .i64 ((N : Int) + 1)) := by rw [HX8.out.cell, List.getElem?_toArray, sec_n, HK2.out]
  have wN : IntKind.i64.wrap ((N : Int) + 1 - 1) = (N : Int) := by simp [IntKind.wrap, IntKind.bits, IntKind.signed]; omega
  have hH := Lib.hid (Blk.range HX8.out)
  have hz := run_eql_sec k2 k2
  rw [show decide (k2 = k2) = true from decide_eq_true rfl] at hz
  go_wp2_with (first | (refine wpList_load_mid_g (by first | rfl | simp [Region.wanted, yielded]) 28 (.tmp 64) rfl X12 3 rfl (secV k2) d28 Hsc.out hd28 hrow28 (by rw [secV_len]; kernel_rfl) ?_) | (refine wpList_load_mid_g (by first | rfl | simp [Region.wanted, yielded]) 28 (.tmp 8) rfl X8 0 rfl (secV k2) d28 hH.out hd28 hrow28 (by rw [secV_len]; kernel_rfl) ?_) | (refine wpList_load_mid_g (by first | rfl | simp [Region.wanted, yielded]) 37 (.tmp 79) rfl X12 0 rfl (sgV (N : Int) C n c D m d) d37 Hsg.out hd37 hrow37 (by rw [sgV_len]; kernel_rfl) ?_))
  clear f0 f1 c2 hz Hsc Hsg hH
  have ln := HC2.out.1.lenf sumC_len (by omega)
  have lm := HD2.out.1.lenf sumC_len (by omega)
  have hform : formB (N : Int) n m = true := by unfold formB; rw [decide_eq_true_eq]; refine ⟨by omega, by omega, by omega, ?_⟩; rw [← lm, hpl]; exact_mod_cast hNM'
  refine (RFormed_any (N : Int) C n c D m d v10).mono ?_
  rintro e v11 ⟨rfl, hb_⟩
  replace HB2 := Lib.hid (HB2.out.trans (hb_.mono HB2.out.size))
  replace HX8 := Lib.hid (HX8.out.below hb_ HX8.out.lt)
  replace hX10 := Lib.hid (hX10.out.below hb_ hX10.out.lt)
  replace hX12 := Lib.hid (hX12.out.below hb_ hX12.out.lt)
  replace HC2 := Lib.hid (HC2.out.below hb_)
  replace HD2 := Lib.hid (HD2.out.below hb_)
  replace Hg := Lib.hid (Hg.out.below hb_)
  replace Hb2 := Lib.hid (Hb2.out.below hb_)
  clear hb_
  rw [hform]
  have f2 : v11.cell? ⟨X12, 2, none⟩ = some (.slice D m d) := by rw [hX12.out.cell]; rfl
  have c1 : v11.cell? ⟨X8, 32, none⟩ = some (.int .i64 (m : Int)) := by rw [HX8.out.cell, List.getElem?_toArray, sec_h, HK2.out]; dsimp only; rw [E1.out, ← hpl, lm]
  have Hsg := Lib.hid (sgn_sig hX12.out)
  have Hp := Lib.hid (Blk.range hX10.out)
  go_wp2_with (first | (refine wpList_load_mid_g (by first | rfl | simp [Region.wanted, yielded]) 26 (.tmp 10) rfl X10 0 rfl (sumC P) _ Hp.out und32 rfl (by rw [sumC_len]; kernel_rfl) ?_) | (refine wpList_load_mid_g (by first | rfl | simp [Region.wanted, yielded]) 37 (.tmp 95) rfl X12 0 rfl (sgV (N : Int) C n c D m d) d37 Hsg.out hd37 hrow37 (by rw [sgV_len]; kernel_rfl) ?_))
  clear f2 c1 Hsg Hp
  refine (Verify_any P A len' cap B (N : Int) C D n c m d ch pa v11 Hg.out Hb2.out (by omega) HC2.out.1 HD2.out.1 hmd).mono ?_
  rintro e v12 ⟨rfl, hb_⟩
  replace HB2 := Lib.hid (HB2.out.trans (hb_.mono HB2.out.size))
  replace HX8 := Lib.hid (HX8.out.below hb_ HX8.out.lt)
  replace hX10 := Lib.hid (hX10.out.below hb_ hX10.out.lt)
  replace hX12 := Lib.hid (hX12.out.below hb_ hX12.out.lt)
  replace HC2 := Lib.hid (HC2.out.below hb_)
  replace HD2 := Lib.hid (HD2.out.below hb_)
  replace Hg := Lib.hid (Hg.out.below hb_)
  replace Hb2 := Lib.hid (Hb2.out.below hb_)
  clear hb_
  rw [Hver.out]
  go_wp2_with fail
  go_ret
  exact ⟨rfl, HB2.out⟩
end Go.Proofs.YtfdhiilhjfbehaaDoor
