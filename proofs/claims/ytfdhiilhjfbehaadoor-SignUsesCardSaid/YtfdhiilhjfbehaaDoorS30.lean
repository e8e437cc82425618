/- SignUses: just so many bodies are signed. -/
import Derived.Test.YtfdhiilhjfbehaaDoorS26
namespace Go.Proofs.YtfdhiilhjfbehaaDoor
open Go.RowKit Go.Sort

theorem val_at (s : Sum32) {H i : Nat} (hH : H ≤ 4) (hi : i ≤ 2 ^ H) : validS ⟨s, (H : Int), (i : Int)⟩ = true := by
  unfold validS
  rw [decide_eq_true_eq]
  refine ⟨by dsimp only; omega, by dsimp only; omega, by dsimp only; omega, ?_⟩
  dsimp only
  rw [Int.toNat_natCast]
  exact_mod_cast hi
theorem pub_at (s : Sum32) {H i : Nat} (h : validS ⟨s, (H : Int), (i : Int)⟩ = true) : pubS ⟨s, (H : Int), (i : Int)⟩ = (root (keysS s (2 ^ H)), 0) := by
  unfold pubS
  rw [if_pos h]
  dsimp only
  rw [Int.toNat_natCast]

set_option maxRecDepth 100000 in
set_option maxHeartbeats 4000000 in
theorem SignUses_any (As : Option Addr) (ls cs : Nat) (bs : List UInt8) (a : UInt8) (A0 : Option Addr) (len cap : Nat) (css : List (List UInt8)) (w : World) (hg : Globs w) (hrs : Rd w 1 As ls (bs.map byteV)) (hl : Lst w A0 len css) :
    Calls Tryd.prog 5 #[.slice As ls cs, .int .u8 (a.toNat : Int), .slice A0 len cap] w fun e w' => e = .returned (.bool true) ∧ Below w.heap.size w w' := by
  obtain ⟨i32, hi32, hz32, hs32, hy32⟩ := info_parts info32
  obtain ⟨i37, hi37, hz37, _, _⟩ := info_parts info37
  obtain ⟨i28, hi28, hz28, _, _⟩ := info_parts info28
  obtain ⟨i39, hi39, hz39, _, _⟩ := info_parts info39
  obtain ⟨d28, hd28, hrow28⟩ := und28
  obtain ⟨d37, hd37, hrow37⟩ := und37
  obtain ⟨d39, hd39, hrow39⟩ := und39
  have hal := a.toNat_lt
  go_enter Tryd.func5, Tryd.ntmps5
  have HB := Lib.hid (Below.refl w.heap.size w)
  have Hg := Lib.hid hg
  have Hg0 := Lib.hid hg
  have Hs := Lib.hid hrs
  have HL0 := Lib.hid hl
  have HLl := hl.len
  clear hg hrs hl
  go_upto_region 2 with fail
  refine (sanity_any w Hg.out).mono ?_
  rintro e v1 ⟨rfl, hb_⟩
  replace HB := Lib.hid (HB.out.trans (hb_.mono HB.out.size))
  replace Hg := Lib.hid (Hg.out.below hb_)
  replace Hs := Lib.hid (Hs.out.below hb_)
  clear hb_
  go_upto_region 3 with fail
  refine (Secret_any As ls cs bs 0 0 v1 Hs.out).mono ?_
  rintro e v2 ⟨rfl, hb_⟩
  replace HB := Lib.hid (HB.out.trans (hb_.mono HB.out.size))
  replace Hg := Lib.hid (Hg.out.below hb_)
  replace Hs := Lib.hid (Hs.out.below hb_)
  clear hb_
  rw [secS00]
  obtain ⟨s, hs⟩ : ∃ s, s = padS (bs.take 32) := ⟨_, rfl⟩
  rw [← hs]
  clear hs
  clear Hs
  obtain ⟨v3a, hv3a⟩ : ∃ v, v = (v2.alloc (.cells (secV sc0).toArray 28)) := ⟨_, rfl⟩
  obtain ⟨X8, hX8⟩ : ∃ v, v = v2.heap.size := ⟨_, rfl⟩
  have hNX8 : Blk (v2.alloc (.cells (secV sc0).toArray 28)) X8 28 (secV sc0).toArray := by
    have := Blk.new v2 28 (secV sc0).toArray
    skip
    rw [hX8]; exact this
  rw [← hv3a] at hNX8
  have hbA : Below v2.heap.size v2 v3a := by
    rw [hv3a]; exact (Below.refl _ _).alloc (by simp) _
  have HNX8 := Lib.hid hNX8
  have hkX8 := (KeptIn.refl (fun b => b ≠ X8) v3a).setRow (g := X8) (fun h => h rfl) (secV ⟨s, 0, 0⟩).toArray
  replace hNX8 : Blk (v3a.setRow X8 (secV ⟨s, 0, 0⟩).toArray) X8 28 (secV ⟨s, 0, 0⟩).toArray := setRow_heap _ _ _ _ _ _ HNX8.out
  obtain ⟨v3, hv3⟩ : ∃ v, v = (v3a.setRow X8 (secV ⟨s, 0, 0⟩).toArray) := ⟨_, rfl⟩
  have hbB : Below v2.heap.size v2 v3 := by rw [hv3]; exact (Below.setRow hbA (show v2.heap.size ≤ X8 by omega) _)
  rw [← hv3] at hNX8
  have HBX8 := Lib.hid hNX8
  have Hv3a := Lib.hid hv3a
  have Hv3 := Lib.hid hv3
  have HEX8 := Lib.hid hX8
  clear hNX8 hkX8 hv3a hv3 hbA
  have hlX8 : w.heap.size ≤ X8 := by have := HB.out.size; omega
  clear hX8
  go_upto_region 3 with (first | (refine wpList_alloc0 rfl 28 rfl (secV sc0).toArray _ i28 hi28 hz28 rfl ?_; simp only [Act.put, List.setIfInBounds_toArray, List.set_cons_succ, List.set_cons_zero]; try simp only [World.size_alloc]) | (rw [← Hv3a.out, ← HEX8.out]; refine wpList_store_row rfl 28 (.tmp 8) (.tmp 20) rfl X8 (secV ⟨s, 0, 0⟩).toArray rfl rfl 28 _ HNX8.out (size28 _ (sec_size _)) ((sec_size _).trans (sec_size _).symm) (sec_one _) ?_; rw [← Hv3.out]))
  replace HB := Lib.hid (HB.out.trans (hbB.mono HB.out.size))
  replace Hg := Lib.hid (Hg.out.below hbB)
  clear hbB
  clear HNX8 HEX8 Hv3a Hv3
  obtain ⟨H, hH⟩ : ∃ H : Nat, H = a.toNat % 3 := ⟨_, rfl⟩
  have hh1 : ((a.toNat : Int) % 3) = (H : Int) := by omega
  have hh2 : (a.toNat : Int).tmod 3 = (H : Int) := by rw [Int.tmod_eq_emod_of_nonneg (by omega)]; exact hh1
  have hH2 : H ≤ 2 := by omega
  have hww : IntKind.u8.wrap (H : Int) = (H : Int) := by simp [IntKind.wrap, IntKind.bits, IntKind.signed]; omega
  have hw3 : IntKind.i64.wrap (H : Int) = (H : Int) := by simp [IntKind.wrap, IntKind.bits, IntKind.signed]; omega
  clear hH
  have fr2 := HBX8.out.frozen 32
  have c2 : v3.cell? ⟨X8, 32, none⟩ = some (.int .i64 0) := by rw [HBX8.out.cell, List.getElem?_toArray, sec_h]
  go_upto_region 4 with fail
  clear fr2 c2 hh1 hh2 hww hw3
  obtain ⟨v4, hv4⟩ : ∃ v, v = v3.setCell ⟨X8, 32, none⟩ (.int .i64 (H : Int)) := ⟨_, rfl⟩
  rw [← hv4]
  have hkx := (KeptIn.refl (fun b => b ≠ X8) v3).setAt (p := ⟨X8, 32, none⟩) (fun h => h rfl) (.int .i64 (H : Int))
  rw [← hv4] at hkx
  have hXX : Blk v4 X8 28 (secV ⟨s, (H : Int), 0⟩).toArray := by
    have := heap_setCell_same v3 X8 32 _ 28 (.int .i64 (H : Int)) HBX8.out
    rw [sec_seth] at this
    rw [hv4]; exact this
  replace HB := Lib.hid (show Below w.heap.size w v4 by rw [hv4]; exact Below.setCell HB.out (by omega) _)
  have hg1 := Hg0.out.size
  replace Hg := Lib.hid (show Globs _ from Hg.out.keptIn hkx (show (0 : Nat) ≠ X8 by omega) (show (1 : Nat) ≠ X8 by omega))
  replace HBX8 := Lib.hid hXX
  clear hXX hkx hv4
  obtain ⟨M, hM⟩ : ∃ M : Nat, M = 2 ^ H := ⟨_, rfl⟩
  have hM4 : M ≤ 4 := by rw [hM]; rcases (show H = 0 ∨ H = 1 ∨ H = 2 by omega) with rfl | rfl | rfl <;> decide
  have hsh : IntKind.i64.wrap (2 ^ H) = (M : Int) := by rw [hM]; rcases (show H = 0 ∨ H = 1 ∨ H = 2 by omega) with rfl | rfl | rfl <;> rfl
  have HVal := Lib.hid (show ∀ i : Nat, i ≤ M → validS ⟨s, (H : Int), (i : Int)⟩ = true from fun i hi => val_at s (by omega) (hM ▸ hi))
  obtain ⟨P, hP⟩ : ∃ P, P = root (keysS s M) := ⟨_, rfl⟩
  have Hpub := Lib.hid (show ∀ i : Nat, i ≤ M → pubS ⟨s, (H : Int), (i : Int)⟩ = (P, 0) from fun i hi => by rw [hP, hM]; exact pub_at s (val_at s (by omega) (hM ▸ hi)))
  have HM := Lib.hid hM
  clear hM hP
  have Hk := Lib.hid (Blk.range HBX8.out)
  go_upto_region 5 with (refine wpList_load_mid rfl 28 (.tmp 8) rfl X8 0 rfl (secV ⟨s, (H : Int), 0⟩) d28 Hk.out hd28 hrow28 (by rw [secV_len]; kernel_rfl) ?_)
  refine (Public_any ⟨s, (H : Int), ((0 : Nat) : Int)⟩ v4 Hg.out).mono ?_
  rintro e v5 ⟨rfl, hb_⟩
  replace HB := Lib.hid (HB.out.trans (hb_.mono HB.out.size))
  replace Hg := Lib.hid (Hg.out.below hb_)
  replace HBX8 := Lib.hid (HBX8.out.below hb_ HBX8.out.lt)
  clear hb_
  rw [Hpub.out 0 (Nat.zero_le _)]
  clear Hk
  obtain ⟨v6a, hv6a⟩ : ∃ v, v = (v5.alloc (.cells zero32 26)) := ⟨_, rfl⟩
  obtain ⟨X9, hX9⟩ : ∃ v, v = v5.heap.size := ⟨_, rfl⟩
  have hNX9 : Blk (v5.alloc (.cells zero32 26)) X9 26 zero32 := by
    have := Blk.new v5 26 zero32
    skip
    rw [hX9]; exact this
  rw [← hv6a] at hNX9
  have hbA : Below v5.heap.size v5 v6a := by
    rw [hv6a]; exact (Below.refl _ _).alloc (by simp) _
  have HNX9 := Lib.hid hNX9
  have hkX9 := (KeptIn.refl (fun b => b ≠ X9) v6a).setRow (g := X9) (fun h => h rfl) (sumC P).toArray
  replace hNX9 : Blk (v6a.setRow X9 (sumC P).toArray) X9 26 (sumC P).toArray := setRow_heap _ _ _ _ _ _ HNX9.out
  obtain ⟨v6, hv6⟩ : ∃ v, v = (v6a.setRow X9 (sumC P).toArray) := ⟨_, rfl⟩
  have hbB : Below v5.heap.size v5 v6 := by rw [hv6]; exact (Below.setRow hbA (show v5.heap.size ≤ X9 by omega) _)
  rw [← hv6] at hNX9
  have HBX9 := Lib.hid hNX9
  have Hv6a := Lib.hid hv6a
  have Hv6 := Lib.hid hv6
  have HEX9 := Lib.hid hX9
  clear hNX9 hkX9 hv6a hv6 hbA
  have hlX9 : w.heap.size ≤ X9 := by have := HB.out.size; omega
  have hoX8X9 : X8 < X9 := by have := HBX8.out.lt; omega
  clear hX9
  go_upto_region 5 with (first | (refine wpList_alloc0 rfl 26 rfl zero32 _ i32 hi32 hz32 rfl ?_; simp only [Act.put, List.setIfInBounds_toArray, List.set_cons_succ, List.set_cons_zero]; try simp only [World.size_alloc]) | (rw [← Hv6a.out, ← HEX9.out]; refine wpList_store_row rfl 26 (.tmp 9) (.tmp 28) rfl X9 (sumC P).toArray rfl rfl 26 _ HNX9.out (size32 _ (sum_size _)) ((zero32_size).trans (sum_size _).symm) (all_oneCell_toArray (oneB _)) ?_; rw [← Hv6.out]))
  replace HB := Lib.hid (HB.out.trans (hbB.mono HB.out.size))
  replace Hg := Lib.hid (Hg.out.below hbB)
  replace HBX8 := Lib.hid (HBX8.out.below hbB HBX8.out.lt)
  clear hbB
  clear HNX9 HEX9 Hv6a Hv6
  have c1 : v6.cell? ⟨X8, 32, none⟩ = some (.int .i64 (H : Int)) := by rw [HBX8.out.cell, List.getElem?_toArray, sec_h]
  go_upto_region 9 with fail
  clear c1 hsh
  go_loopw [12, 13, 14] (fun v12 _ _ wr => ∃ i : Nat, v12 = .int .i64 (i : Int) ∧ i ≤ M ∧ Blk wr X8 28 (secV ⟨s, (H : Int), (i : Int)⟩).toArray ∧ Blk wr X9 26 (sumC P).toArray ∧ Below w.heap.size w wr) (fun v12 _ _ _ => M - (intOf v12).toNat)
  case atStart => exact ⟨0, rfl, Nat.zero_le _, HBX8.out, HBX9.out, HB.out⟩
  case round =>
    obtain ⟨i, rfl, hi, h8, h9, hB⟩ := hrel
    replace HBX8 := Lib.hid h8
    replace HBX9 := Lib.hid h9
    replace HB := Lib.hid hB
    replace Hg := Lib.hid (Hg0.out.below hB)
    clear h8 h9 hB
    by_cases hlt : i < M
    · skip
      have d0 : decide ((i : Int) < (M : Int)) = true := decide_eq_true (by omega)
      have HLr := Lib.hid (HL0.out.below HB.out)
      obtain ⟨bi, hwi⟩ : ∃ b : UInt8, IntKind.u8.wrap (i : Int) = (b.toNat : Int) := u8_wrap _
      go_upto_region 12 with fail
      obtain ⟨wb, hwb⟩ : ∃ v, v = wr.alloc (.cells #[.int .u8 (bi.toNat : Int)] 5) := ⟨_, rfl⟩
      have hlit : Rd wb 1 (some ⟨wr.heap.size, 0, none⟩) 1 ([bi].map byteV) := by rw [hwb]; exact Rd.of_own (own_lit wr 5 (byteV bi))
      have hbb : Below wr.heap.size wr wb := by rw [hwb]; exact (Below.refl _ _).alloc (Nat.le_refl _) _
      rw [← hwb]
      have Hlit := Lib.hid hlit
      replace HB := Lib.hid (HB.out.trans (hbb.mono HB.out.size))
      replace Hg := Lib.hid (Hg.out.below hbb)
      replace HBX8 := Lib.hid (HBX8.out.below hbb HBX8.out.lt)
      replace HBX9 := Lib.hid (HBX9.out.below hbb HBX9.out.lt)
      replace HLr := Lib.hid (HLr.out.below hbb)
      clear hwb hlit hbb hwi
      by_cases hil : i < len
      · skip
        have d1 : decide ((i : Int) < (len : Int)) = true := decide_eq_true (by omega)
        obtain ⟨vs, hvr, hvl, hins⟩ := HLr.out
        have hvn : vs.length = len := by have := hvr.1; rw [List.length_map] at this; omega
        obtain ⟨v, hv⟩ : ∃ v, vs[i]? = some v := ⟨_, List.getElem?_eq_getElem (by omega)⟩
        obtain ⟨c0, hc0⟩ : ∃ c, css[i]? = some c := ⟨_, List.getElem?_eq_getElem (by omega)⟩
        obtain ⟨hvrd, hvc⟩ := hins i v c0 hv hc0
        obtain ⟨qb, qo, rfl, hqc⟩ := hvr.2.2 (by omega)
        have g0 : wb.cell? ⟨qb, qo + i, none⟩ = some (.slice v.a v.n v.c) := hqc i (slV v) (by rw [List.getElem?_map, hv]; rfl)
        have hi0 : (0 : Int) ≤ (i : Int) := by omega
        have hil' : (i : Int) < (len : Int) := by omega
        have HLm := Lib.hid (Limited_any v.a v.n v.c 20 c0 wb hvrd hvc (by omega))
        clear hvr hins hv hc0 hvrd hqc hvn hvl
        go_wp2_with fail
        refine HLm.out.mono ?_
        rintro e W' ⟨⟨n, rfl, hnc, hn20, hrb⟩, hw'⟩
        subst hw'
        obtain ⟨B, hB⟩ : ∃ B, B = c0.take 20 := ⟨_, rfl⟩
        rw [← hB] at hrb
        clear hB HLm
        obtain ⟨A, hA⟩ : ∃ A, A = v.a := ⟨_, rfl⟩
        obtain ⟨c, hc⟩ : ∃ c, c = v.c := ⟨_, rfl⟩
        rw [← hA] at hrb ⊢
        rw [← hc] at hnc ⊢
        clear hA hc g0
        have Hb := Lib.hid hrb
        clear hrb
        obtain ⟨ch, pa, hSv, hcl, hpl, hver⟩ := sign_ok B (HVal.out i (by omega)) rfl rfl (show i < 2 ^ H by rw [← HM.out]; omega)
        rw [Hpub.out i (by omega)] at hver
        have Hver := Lib.hid hver
        clear hver
        have Hk := Lib.hid (Blk.range HBX8.out)
        have hmade := made_any ⟨s, (H : Int), (i : Int)⟩ A n c B W' Hg.out Hb.out (by omega)
        rw [hSv] at hmade
        dsimp only at hmade
        have Hmade := Lib.hid hmade
        clear hmade hSv
        go_upto_region 15 with (refine wpList_load_mid rfl 28 (.tmp 8) rfl X8 0 rfl (secV ⟨s, (H : Int), (i : Int)⟩) d28 Hk.out hd28 hrow28 (by rw [secV_len]; kernel_rfl) ?_)
        refine (Hmade.out).mono ?_
        rintro e v201 ⟨⟨C, n', c', D, m', d', rfl, hnc', hmd', hC, hD⟩, hb_⟩
        replace HB := Lib.hid (HB.out.trans (hb_.mono HB.out.size))
        replace Hg := Lib.hid (Hg.out.below hb_)
        replace HBX8 := Lib.hid (HBX8.out.below hb_ HBX8.out.lt)
        replace HBX9 := Lib.hid (HBX9.out.below hb_ HBX9.out.lt)
        replace Hb := Lib.hid (Hb.out.below hb_)
        clear hb_
        have qn := hC.1.lenf sumC_len (by omega)
        have qm := hD.1.lenf sumC_len (by omega)
        have HC := Lib.hid hC
        have HD := Lib.hid hD
        clear hC hD Hmade Hk
        obtain ⟨v202a, hv202a⟩ : ∃ v, v = (v201.alloc (.cells (sgnV 0 none 0 0 none 0 0 sc0 0).toArray 39)) := ⟨_, rfl⟩
        obtain ⟨X14, hX14⟩ : ∃ v, v = v201.heap.size := ⟨_, rfl⟩
        have hNX14 : Blk (v201.alloc (.cells (sgnV 0 none 0 0 none 0 0 sc0 0).toArray 39)) X14 39 (sgnV 0 none 0 0 none 0 0 sc0 0).toArray := by
          have := Blk.new v201 39 (sgnV 0 none 0 0 none 0 0 sc0 0).toArray
          skip
          rw [hX14]; exact this
        rw [← hv202a] at hNX14
        have hbA : Below v201.heap.size v201 v202a := by
          rw [hv202a]; exact (Below.refl _ _).alloc (by simp) _
        have HNX14 := Lib.hid hNX14
        have hkX14 := (KeptIn.refl (fun b => b ≠ X14) v202a).setRow (g := X14) (fun h => h rfl) (sgnV (i : Int) C n' c' D m' d' ⟨s, (H : Int), (i : Int) + 1⟩ 0).toArray
        replace hNX14 : Blk (v202a.setRow X14 (sgnV (i : Int) C n' c' D m' d' ⟨s, (H : Int), (i : Int) + 1⟩ 0).toArray) X14 39 (sgnV (i : Int) C n' c' D m' d' ⟨s, (H : Int), (i : Int) + 1⟩ 0).toArray := setRow_heap _ _ _ _ _ _ HNX14.out
        obtain ⟨v202, hv202⟩ : ∃ v, v = (v202a.setRow X14 (sgnV (i : Int) C n' c' D m' d' ⟨s, (H : Int), (i : Int) + 1⟩ 0).toArray) := ⟨_, rfl⟩
        have hbB : Below v201.heap.size v201 v202 := by rw [hv202]; exact (Below.setRow hbA (show v201.heap.size ≤ X14 by omega) _)
        rw [← hv202] at hNX14
        have HBX14 := Lib.hid hNX14
        have Hv202a := Lib.hid hv202a
        have Hv202 := Lib.hid hv202
        have HEX14 := Lib.hid hX14
        clear hNX14 hkX14 hv202a hv202 hbA
        have hlX14 : w.heap.size ≤ X14 := by have := HB.out.size; omega
        have hoX8X14 : X8 < X14 := by have := HBX8.out.lt; omega
        have hoX9X14 : X9 < X14 := by have := HBX9.out.lt; omega
        clear hX14
        go_upto_region 15 with (first | (refine wpList_alloc0 rfl 39 rfl (sgnV 0 none 0 0 none 0 0 sc0 0).toArray _ i39 hi39 hz39 rfl ?_; simp only [Act.put, List.setIfInBounds_toArray, List.set_cons_succ, List.set_cons_zero]; try simp only [World.size_alloc]) | (rw [← Hv202a.out, ← HEX14.out]; refine wpList_store_row rfl 39 (.tmp 14) (.tmp 54) rfl X14 (sgnV (i : Int) C n' c' D m' d' ⟨s, (H : Int), (i : Int) + 1⟩ 0).toArray rfl rfl 39 _ HNX14.out (size39 _ (sgn_size _ _ _ _ _ _ _ _ _)) ((sgn_size _ _ _ _ _ _ _ _ _).trans (sgn_size _ _ _ _ _ _ _ _ _).symm) (sgn_one _ _ _ _ _ _ _ _ _) ?_; rw [← Hv202.out]))
        replace HB := Lib.hid (HB.out.trans (hbB.mono HB.out.size))
        replace Hg := Lib.hid (Hg.out.below hbB)
        replace HBX8 := Lib.hid (HBX8.out.below hbB HBX8.out.lt)
        replace HBX9 := Lib.hid (HBX9.out.below hbB HBX9.out.lt)
        replace Hb := Lib.hid (Hb.out.below hbB)
        replace HC := Lib.hid (HC.out.below hbB)
        replace HD := Lib.hid (HD.out.below hbB)
        clear hbB
        clear HNX14 HEX14 Hv202a Hv202
        have f37 := sgn_st HBX14.out
        have f0 : v202.cell? ⟨X14, 0, none⟩ = some (.int .i64 (i : Int)) := by rw [HBX14.out.cell]; rfl
        have Hsg := Lib.hid (sgn_sig HBX14.out)
        have Hp := Lib.hid (Blk.range HBX9.out)
        go_wp2_with (first | (refine wpList_load_mid_g (by first | rfl | simp [Region.wanted, yielded]) 26 (.tmp 9) rfl X9 0 rfl (sumC P) _ Hp.out und32 rfl (by rw [sumC_len]; kernel_rfl) ?_) | (refine wpList_load_mid_g (by first | rfl | simp [Region.wanted, yielded]) 37 (.tmp 68) rfl X14 0 rfl (sgV (i : Int) C n' c' D m' d') d37 Hsg.out hd37 hrow37 (by rw [sgV_len]; kernel_rfl) ?_))
        clear f37 f0 Hsg Hp
        refine (Verify_any P A n c B (i : Int) C D n' c' m' d' ch pa v202 Hg.out Hb.out (by omega) HC.out.1 HD.out.1 hmd').mono ?_
        rintro e v203 ⟨rfl, hb_⟩
        replace HB := Lib.hid (HB.out.trans (hb_.mono HB.out.size))
        replace Hg := Lib.hid (Hg.out.below hb_)
        replace HBX8 := Lib.hid (HBX8.out.below hb_ HBX8.out.lt)
        replace HBX9 := Lib.hid (HBX9.out.below hb_ HBX9.out.lt)
        replace Hb := Lib.hid (Hb.out.below hb_)
        replace HC := Lib.hid (HC.out.below hb_)
        replace HD := Lib.hid (HD.out.below hb_)
        replace HBX14 := Lib.hid (HBX14.out.below hb_ HBX14.out.lt)
        clear hb_
        rw [Hver.out]
        have f36 : v203.cell? ⟨X14, 36, none⟩ = some (.int .i64 ((i : Int) + 1)) := sgn_sec HBX14.out 33 _ (sec_n _)
        have f35 : v203.cell? ⟨X14, 35, none⟩ = some (.int .i64 (H : Int)) := sgn_sec HBX14.out 32 _ (sec_h _)
        have c32 : v203.cell? ⟨X8, 32, none⟩ = some (.int .i64 (H : Int)) := by rw [HBX8.out.cell, List.getElem?_toArray, sec_h]
        have Hs1 := Lib.hid (show v203.rangeAt X14 3 (sumC s) from fun j v hv => sgn_sec HBX14.out j v (sec_seed _ hv))
        have Hs2 := Lib.hid (sec_sum HBX8.out)
        have Hsc := Lib.hid (sgn_sec HBX14.out)
        have hzn := run_neq_sum s s
        rw [show decide (s = s) = true from decide_eq_true rfl] at hzn
        have wi1 : IntKind.i64.wrap ((i : Int) + 1) = (i : Int) + 1 := by simp [IntKind.wrap, IntKind.bits, IntKind.signed]; omega
        have hEnd : Blk (v203.setRow X8 (secV ⟨s, (H : Int), (i : Int) + 1⟩).toArray) X8 28 (secV ⟨s, (H : Int), (i : Int) + 1⟩).toArray := setRow_heap _ _ _ _ _ _ HBX8.out
        have hk8 := (KeptIn.refl (fun b => b ≠ X8) v203).setRow (g := X8) (fun h => h rfl) (secV ⟨s, (H : Int), (i : Int) + 1⟩).toArray
        have hEnd9 := HBX9.out.keptIn hk8 (HBX9.out.ne HBX8.out (by decide))
        have hEndB : Below w.heap.size w (v203.setRow X8 (secV ⟨s, (H : Int), (i : Int) + 1⟩).toArray) := Below.setRow HB.out (by omega) _
        have HEnd := Lib.hid hEnd
        have HEnd9 := Lib.hid hEnd9
        have HEndB := Lib.hid hEndB
        clear hEnd hEnd9 hEndB hk8
        go_wp2_with (first | (refine wpList_load_mid_g (by first | rfl | simp [Region.wanted, yielded]) 26 (.tmp 91) rfl X14 3 rfl (sumC s) _ Hs1.out und32 rfl (by rw [sumC_len]; kernel_rfl) ?_) | (refine wpList_load_mid_g (by first | rfl | simp [Region.wanted, yielded]) 26 (.tmp 93) rfl X8 0 rfl (sumC s) _ Hs2.out und32 rfl (by rw [sumC_len]; kernel_rfl) ?_) | (refine wpList_load_mid rfl 28 (.tmp 97) rfl X14 3 rfl (secV ⟨s, (H : Int), (i : Int) + 1⟩) d28 Hsc.out hd28 hrow28 (by rw [secV_len]; kernel_rfl) ?_) | (refine wpList_store_row rfl 28 (.tmp 8) (.tmp 98) rfl X8 (secV ⟨s, (H : Int), (i : Int) + 1⟩).toArray rfl rfl 28 _ HBX8.out (size28 _ (sec_size _)) ((sec_size _).trans (sec_size _).symm) (sec_one _) ?_))
        exact ⟨⟨i + 1, by push_cast; rfl, by omega, by exact_mod_cast HEnd.out, HEnd9.out, HEndB.out⟩, by simp [intOf]; omega⟩
      · have d1 : decide ((i : Int) < (len : Int)) = false := decide_eq_false (by omega)
        go_upto_region 14 with fail
        obtain ⟨B, hB⟩ : ∃ B, B = [bi] := ⟨_, rfl⟩
        have hrb := Hlit.out
        rw [← hB] at hrb
        clear hB
        obtain ⟨A, hA⟩ : ∃ A : Option Addr, A = some ⟨wr.heap.size, 0, none⟩ := ⟨_, rfl⟩
        obtain ⟨n, hn⟩ : ∃ n : Nat, n = 1 := ⟨_, rfl⟩
        have hn20 : n ≤ 20 := by omega
        rw [← hA, ← hn] at hrb
        rw [← hA]
        have hnn := hn
        subst hnn
        obtain ⟨c, hc⟩ : ∃ c : Nat, c = 1 := ⟨_, rfl⟩
        clear hA
        have Hb := Lib.hid hrb
        clear hrb
        obtain ⟨ch, pa, hSv, hcl, hpl, hver⟩ := sign_ok B (HVal.out i (by omega)) rfl rfl (show i < 2 ^ H by rw [← HM.out]; omega)
        rw [Hpub.out i (by omega)] at hver
        have Hver := Lib.hid hver
        clear hver
        have Hk := Lib.hid (Blk.range HBX8.out)
        have hmade := made_any ⟨s, (H : Int), (i : Int)⟩ A 1 1 B wb Hg.out Hb.out (by omega)
        rw [hSv] at hmade
        dsimp only at hmade
        have Hmade := Lib.hid hmade
        clear hmade hSv
        go_upto_region 15 with (refine wpList_load_mid rfl 28 (.tmp 8) rfl X8 0 rfl (secV ⟨s, (H : Int), (i : Int)⟩) d28 Hk.out hd28 hrow28 (by rw [secV_len]; kernel_rfl) ?_)
        refine (Hmade.out).mono ?_
        rintro e v201 ⟨⟨C, n', c', D, m', d', rfl, hnc', hmd', hC, hD⟩, hb_⟩
        replace HB := Lib.hid (HB.out.trans (hb_.mono HB.out.size))
        replace Hg := Lib.hid (Hg.out.below hb_)
        replace HBX8 := Lib.hid (HBX8.out.below hb_ HBX8.out.lt)
        replace HBX9 := Lib.hid (HBX9.out.below hb_ HBX9.out.lt)
        replace Hb := Lib.hid (Hb.out.below hb_)
        clear hb_
        have qn := hC.1.lenf sumC_len (by omega)
        have qm := hD.1.lenf sumC_len (by omega)
        have HC := Lib.hid hC
        have HD := Lib.hid hD
        clear hC hD Hmade Hk
        obtain ⟨v202a, hv202a⟩ : ∃ v, v = (v201.alloc (.cells (sgnV 0 none 0 0 none 0 0 sc0 0).toArray 39)) := ⟨_, rfl⟩
        obtain ⟨X14, hX14⟩ : ∃ v, v = v201.heap.size := ⟨_, rfl⟩
        have hNX14 : Blk (v201.alloc (.cells (sgnV 0 none 0 0 none 0 0 sc0 0).toArray 39)) X14 39 (sgnV 0 none 0 0 none 0 0 sc0 0).toArray := by
          have := Blk.new v201 39 (sgnV 0 none 0 0 none 0 0 sc0 0).toArray
          skip
          rw [hX14]; exact this
        rw [← hv202a] at hNX14
        have hbA : Below v201.heap.size v201 v202a := by
          rw [hv202a]; exact (Below.refl _ _).alloc (by simp) _
        have HNX14 := Lib.hid hNX14
        have hkX14 := (KeptIn.refl (fun b => b ≠ X14) v202a).setRow (g := X14) (fun h => h rfl) (sgnV (i : Int) C n' c' D m' d' ⟨s, (H : Int), (i : Int) + 1⟩ 0).toArray
        replace hNX14 : Blk (v202a.setRow X14 (sgnV (i : Int) C n' c' D m' d' ⟨s, (H : Int), (i : Int) + 1⟩ 0).toArray) X14 39 (sgnV (i : Int) C n' c' D m' d' ⟨s, (H : Int), (i : Int) + 1⟩ 0).toArray := setRow_heap _ _ _ _ _ _ HNX14.out
        obtain ⟨v202, hv202⟩ : ∃ v, v = (v202a.setRow X14 (sgnV (i : Int) C n' c' D m' d' ⟨s, (H : Int), (i : Int) + 1⟩ 0).toArray) := ⟨_, rfl⟩
        have hbB : Below v201.heap.size v201 v202 := by rw [hv202]; exact (Below.setRow hbA (show v201.heap.size ≤ X14 by omega) _)
        rw [← hv202] at hNX14
        have HBX14 := Lib.hid hNX14
        have Hv202a := Lib.hid hv202a
        have Hv202 := Lib.hid hv202
        have HEX14 := Lib.hid hX14
        clear hNX14 hkX14 hv202a hv202 hbA
        have hlX14 : w.heap.size ≤ X14 := by have := HB.out.size; omega
        have hoX8X14 : X8 < X14 := by have := HBX8.out.lt; omega
        have hoX9X14 : X9 < X14 := by have := HBX9.out.lt; omega
        clear hX14
        go_upto_region 15 with (first | (refine wpList_alloc0 rfl 39 rfl (sgnV 0 none 0 0 none 0 0 sc0 0).toArray _ i39 hi39 hz39 rfl ?_; simp only [Act.put, List.setIfInBounds_toArray, List.set_cons_succ, List.set_cons_zero]; try simp only [World.size_alloc]) | (rw [← Hv202a.out, ← HEX14.out]; refine wpList_store_row rfl 39 (.tmp 14) (.tmp 54) rfl X14 (sgnV (i : Int) C n' c' D m' d' ⟨s, (H : Int), (i : Int) + 1⟩ 0).toArray rfl rfl 39 _ HNX14.out (size39 _ (sgn_size _ _ _ _ _ _ _ _ _)) ((sgn_size _ _ _ _ _ _ _ _ _).trans (sgn_size _ _ _ _ _ _ _ _ _).symm) (sgn_one _ _ _ _ _ _ _ _ _) ?_; rw [← Hv202.out]))
        replace HB := Lib.hid (HB.out.trans (hbB.mono HB.out.size))
        replace Hg := Lib.hid (Hg.out.below hbB)
        replace HBX8 := Lib.hid (HBX8.out.below hbB HBX8.out.lt)
        replace HBX9 := Lib.hid (HBX9.out.below hbB HBX9.out.lt)
        replace Hb := Lib.hid (Hb.out.below hbB)
        replace HC := Lib.hid (HC.out.below hbB)
        replace HD := Lib.hid (HD.out.below hbB)
        clear hbB
        clear HNX14 HEX14 Hv202a Hv202
        have f37 := sgn_st HBX14.out
        have f0 : v202.cell? ⟨X14, 0, none⟩ = some (.int .i64 (i : Int)) := by rw [HBX14.out.cell]; rfl
        have Hsg := Lib.hid (sgn_sig HBX14.out)
        have Hp := Lib.hid (Blk.range HBX9.out)
        go_wp2_with (first | (refine wpList_load_mid_g (by first | rfl | simp [Region.wanted, yielded]) 26 (.tmp 9) rfl X9 0 rfl (sumC P) _ Hp.out und32 rfl (by rw [sumC_len]; kernel_rfl) ?_) | (refine wpList_load_mid_g (by first | rfl | simp [Region.wanted, yielded]) 37 (.tmp 68) rfl X14 0 rfl (sgV (i : Int) C n' c' D m' d') d37 Hsg.out hd37 hrow37 (by rw [sgV_len]; kernel_rfl) ?_))
        clear f37 f0 Hsg Hp
        refine (Verify_any P A 1 1 B (i : Int) C D n' c' m' d' ch pa v202 Hg.out Hb.out (by omega) HC.out.1 HD.out.1 hmd').mono ?_
        rintro e v203 ⟨rfl, hb_⟩
        replace HB := Lib.hid (HB.out.trans (hb_.mono HB.out.size))
        replace Hg := Lib.hid (Hg.out.below hb_)
        replace HBX8 := Lib.hid (HBX8.out.below hb_ HBX8.out.lt)
        replace HBX9 := Lib.hid (HBX9.out.below hb_ HBX9.out.lt)
        replace Hb := Lib.hid (Hb.out.below hb_)
        replace HC := Lib.hid (HC.out.below hb_)
        replace HD := Lib.hid (HD.out.below hb_)
        replace HBX14 := Lib.hid (HBX14.out.below hb_ HBX14.out.lt)
        clear hb_
        rw [Hver.out]
        have f36 : v203.cell? ⟨X14, 36, none⟩ = some (.int .i64 ((i : Int) + 1)) := sgn_sec HBX14.out 33 _ (sec_n _)
        have f35 : v203.cell? ⟨X14, 35, none⟩ = some (.int .i64 (H : Int)) := sgn_sec HBX14.out 32 _ (sec_h _)
        have c32 : v203.cell? ⟨X8, 32, none⟩ = some (.int .i64 (H : Int)) := by rw [HBX8.out.cell, List.getElem?_toArray, sec_h]
        have Hs1 := Lib.hid (show v203.rangeAt X14 3 (sumC s) from fun j v hv => sgn_sec HBX14.out j v (sec_seed _ hv))
        have Hs2 := Lib.hid (sec_sum HBX8.out)
        have Hsc := Lib.hid (sgn_sec HBX14.out)
        have hzn := run_neq_sum s s
        rw [show decide (s = s) = true from decide_eq_true rfl] at hzn
        have wi1 : IntKind.i64.wrap ((i : Int) + 1) = (i : Int) + 1 := by simp [IntKind.wrap, IntKind.bits, IntKind.signed]; omega
        have hEnd : Blk (v203.setRow X8 (secV ⟨s, (H : Int), (i : Int) + 1⟩).toArray) X8 28 (secV ⟨s, (H : Int), (i : Int) + 1⟩).toArray := setRow_heap _ _ _ _ _ _ HBX8.out
        have hk8 := (KeptIn.refl (fun b => b ≠ X8) v203).setRow (g := X8) (fun h => h rfl) (secV ⟨s, (H : Int), (i : Int) + 1⟩).toArray
        have hEnd9 := HBX9.out.keptIn hk8 (HBX9.out.ne HBX8.out (by decide))
        have hEndB : Below w.heap.size w (v203.setRow X8 (secV ⟨s, (H : Int), (i : Int) + 1⟩).toArray) := Below.setRow HB.out (by omega) _
        have HEnd := Lib.hid hEnd
        have HEnd9 := Lib.hid hEnd9
        have HEndB := Lib.hid hEndB
        clear hEnd hEnd9 hEndB hk8
        go_wp2_with (first | (refine wpList_load_mid_g (by first | rfl | simp [Region.wanted, yielded]) 26 (.tmp 91) rfl X14 3 rfl (sumC s) _ Hs1.out und32 rfl (by rw [sumC_len]; kernel_rfl) ?_) | (refine wpList_load_mid_g (by first | rfl | simp [Region.wanted, yielded]) 26 (.tmp 93) rfl X8 0 rfl (sumC s) _ Hs2.out und32 rfl (by rw [sumC_len]; kernel_rfl) ?_) | (refine wpList_load_mid rfl 28 (.tmp 97) rfl X14 3 rfl (secV ⟨s, (H : Int), (i : Int) + 1⟩) d28 Hsc.out hd28 hrow28 (by rw [secV_len]; kernel_rfl) ?_) | (refine wpList_store_row rfl 28 (.tmp 8) (.tmp 98) rfl X8 (secV ⟨s, (H : Int), (i : Int) + 1⟩).toArray rfl rfl 28 _ HBX8.out (size28 _ (sec_size _)) ((sec_size _).trans (sec_size _).symm) (sec_one _) ?_))
        exact ⟨⟨i + 1, by push_cast; rfl, by omega, by exact_mod_cast HEnd.out, HEnd9.out, HEndB.out⟩, by simp [intOf]; omega⟩
    · skip
      have d0 : decide ((i : Int) < (M : Int)) = false := decide_eq_false (by omega)
      have he : i = M := by omega
      subst he
      have Hk := Lib.hid (Blk.range HBX8.out)
      go_upto_region 19 with (refine wpList_load_mid rfl 28 (.tmp 8) rfl X8 0 rfl (secV ⟨s, (H : Int), (i : Int)⟩) d28 Hk.out hd28 hrow28 (by rw [secV_len]; kernel_rfl) ?_)
      refine (Public_any ⟨s, (H : Int), (i : Int)⟩ wr Hg.out).mono ?_
      rintro e v301 ⟨rfl, hb_⟩
      replace HB := Lib.hid (HB.out.trans (hb_.mono HB.out.size))
      replace Hg := Lib.hid (Hg.out.below hb_)
      replace HBX8 := Lib.hid (HBX8.out.below hb_ HBX8.out.lt)
      replace HBX9 := Lib.hid (HBX9.out.below hb_ HBX9.out.lt)
      clear hb_
      rw [Hpub.out i (Nat.le_refl _)]
      clear Hk
      obtain ⟨v302a, hv302a⟩ : ∃ v, v = (v301.alloc (.cells zero32 26)) := ⟨_, rfl⟩
      obtain ⟨X15, hX15⟩ : ∃ v, v = v301.heap.size := ⟨_, rfl⟩
      have hNX15 : Blk (v301.alloc (.cells zero32 26)) X15 26 zero32 := by
        have := Blk.new v301 26 zero32
        skip
        rw [hX15]; exact this
      rw [← hv302a] at hNX15
      have hbA : Below v301.heap.size v301 v302a := by
        rw [hv302a]; exact (Below.refl _ _).alloc (by simp) _
      have HNX15 := Lib.hid hNX15
      have hkX15 := (KeptIn.refl (fun b => b ≠ X15) v302a).setRow (g := X15) (fun h => h rfl) (sumC P).toArray
      replace hNX15 : Blk (v302a.setRow X15 (sumC P).toArray) X15 26 (sumC P).toArray := setRow_heap _ _ _ _ _ _ HNX15.out
      obtain ⟨v302, hv302⟩ : ∃ v, v = (v302a.setRow X15 (sumC P).toArray) := ⟨_, rfl⟩
      have hbB : Below v301.heap.size v301 v302 := by rw [hv302]; exact (Below.setRow hbA (show v301.heap.size ≤ X15 by omega) _)
      rw [← hv302] at hNX15
      have HBX15 := Lib.hid hNX15
      have Hv302a := Lib.hid hv302a
      have Hv302 := Lib.hid hv302
      have HEX15 := Lib.hid hX15
      clear hNX15 hkX15 hv302a hv302 hbA
      have hlX15 : w.heap.size ≤ X15 := by have := HB.out.size; omega
      have hoX8X15 : X8 < X15 := by have := HBX8.out.lt; omega
      have hoX9X15 : X9 < X15 := by have := HBX9.out.lt; omega
      clear hX15
      go_upto_region 19 with (first | (refine wpList_alloc0 rfl 26 rfl zero32 _ i32 hi32 hz32 rfl ?_; simp only [Act.put, List.setIfInBounds_toArray, List.set_cons_succ, List.set_cons_zero]; try simp only [World.size_alloc]) | (rw [← Hv302a.out, ← HEX15.out]; refine wpList_store_row rfl 26 (.tmp 15) (.tmp 102) rfl X15 (sumC P).toArray rfl rfl 26 _ HNX15.out (size32 _ (sum_size _)) ((zero32_size).trans (sum_size _).symm) (all_oneCell_toArray (oneB _)) ?_; rw [← Hv302.out]))
      replace HB := Lib.hid (HB.out.trans (hbB.mono HB.out.size))
      replace Hg := Lib.hid (Hg.out.below hbB)
      replace HBX8 := Lib.hid (HBX8.out.below hbB HBX8.out.lt)
      replace HBX9 := Lib.hid (HBX9.out.below hbB HBX9.out.lt)
      clear hbB
      clear HNX15 HEX15 Hv302a Hv302
      have Hk := Lib.hid (Blk.range HBX8.out)
      have hmade := made_any ⟨s, (H : Int), (i : Int)⟩ none 0 0 [] v302 Hg.out (rd_nil1 _) (by omega)
      rw [sign_used (H := H) (N := i) [] (HVal.out i (Nat.le_refl _)) rfl rfl HM.out] at hmade
      dsimp only [sg0] at hmade
      have Hmade := Lib.hid hmade
      clear hmade
      go_wp2_with (refine wpList_load_mid_g (by first | rfl | simp [Region.wanted, yielded]) 28 (.tmp 8) rfl X8 0 rfl (secV ⟨s, (H : Int), (i : Int)⟩) d28 Hk.out hd28 hrow28 (by rw [secV_len]; kernel_rfl) ?_)
      refine (Hmade.out).mono ?_
      rintro e v303 ⟨⟨C, n', c', D, m', d', rfl, _, _, _, _⟩, hb_⟩
      replace HB := Lib.hid (HB.out.trans (hb_.mono HB.out.size))
      replace Hg := Lib.hid (Hg.out.below hb_)
      replace HBX8 := Lib.hid (HBX8.out.below hb_ HBX8.out.lt)
      replace HBX9 := Lib.hid (HBX9.out.below hb_ HBX9.out.lt)
      replace HBX15 := Lib.hid (HBX15.out.below hb_ HBX15.out.lt)
      clear hb_
      clear Hmade Hk
      have hz := run_eql_sum P P
      rw [show decide (P = P) = true from decide_eq_true rfl] at hz
      have Hp := Lib.hid (Blk.range HBX9.out)
      have Hq := Lib.hid (Blk.range HBX15.out)
      go_wp2_with (first | (refine wpList_field (by first | rfl | simp [Region.wanted, yielded]) 39 (.tmp 107) 2 rfl (.agg (sgnV 0 C n' c' D m' d' sc0 160).toArray) (.int .i64 160) rfl (field39_2 _ _ _ _ _ _ _ _ _ _) ?_) | (refine wpList_load_mid_g (by first | rfl | simp [Region.wanted, yielded]) 26 (.tmp 9) rfl X9 0 rfl (sumC P) _ Hp.out und32 rfl (by rw [sumC_len]; kernel_rfl) ?_) | (refine wpList_load_mid_g (by first | rfl | simp [Region.wanted, yielded]) 26 (.tmp 15) rfl X15 0 rfl (sumC P) _ Hq.out und32 rfl (by rw [sumC_len]; kernel_rfl) ?_))
      go_ret
      exact ⟨rfl, HB.out⟩
end Go.Proofs.YtfdhiilhjfbehaaDoor
