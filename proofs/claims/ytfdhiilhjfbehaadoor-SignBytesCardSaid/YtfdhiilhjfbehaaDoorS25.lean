/- SignSecrets: keys that are used up do not matter for the public key; what is not valid is refused. -/
import Derived.Test.YtfdhiilhjfbehaaDoorS24
import Derived.Test.YtfdhiilhjfbehaaDoorFlow
namespace Go.Proofs.YtfdhiilhjfbehaaDoor
open Go.RowKit Go.Sort

set_option maxRecDepth 100000 in
theorem built28s (s : Sum32) (h n : Int) : Tryd.prog.built 28 [(0, .agg (sumC s).toArray), (1, .int .i64 h), (2, .int .i64 n)] = some (secV ⟨s, h, n⟩).toArray := by
  obtain ⟨l, hl⟩ := s
  rcases l with _ | ⟨b0, l⟩
  · simp at hl
  rcases l with _ | ⟨b1, l⟩
  · simp at hl
  rcases l with _ | ⟨b2, l⟩
  · simp at hl
  rcases l with _ | ⟨b3, l⟩
  · simp at hl
  rcases l with _ | ⟨b4, l⟩
  · simp at hl
  rcases l with _ | ⟨b5, l⟩
  · simp at hl
  rcases l with _ | ⟨b6, l⟩
  · simp at hl
  rcases l with _ | ⟨b7, l⟩
  · simp at hl
  rcases l with _ | ⟨b8, l⟩
  · simp at hl
  rcases l with _ | ⟨b9, l⟩
  · simp at hl
  rcases l with _ | ⟨b10, l⟩
  · simp at hl
  rcases l with _ | ⟨b11, l⟩
  · simp at hl
  rcases l with _ | ⟨b12, l⟩
  · simp at hl
  rcases l with _ | ⟨b13, l⟩
  · simp at hl
  rcases l with _ | ⟨b14, l⟩
  · simp at hl
  rcases l with _ | ⟨b15, l⟩
  · simp at hl
  rcases l with _ | ⟨b16, l⟩
  · simp at hl
  rcases l with _ | ⟨b17, l⟩
  · simp at hl
  rcases l with _ | ⟨b18, l⟩
  · simp at hl
  rcases l with _ | ⟨b19, l⟩
  · simp at hl
  rcases l with _ | ⟨b20, l⟩
  · simp at hl
  rcases l with _ | ⟨b21, l⟩
  · simp at hl
  rcases l with _ | ⟨b22, l⟩
  · simp at hl
  rcases l with _ | ⟨b23, l⟩
  · simp at hl
  rcases l with _ | ⟨b24, l⟩
  · simp at hl
  rcases l with _ | ⟨b25, l⟩
  · simp at hl
  rcases l with _ | ⟨b26, l⟩
  · simp at hl
  rcases l with _ | ⟨b27, l⟩
  · simp at hl
  rcases l with _ | ⟨b28, l⟩
  · simp at hl
  rcases l with _ | ⟨b29, l⟩
  · simp at hl
  rcases l with _ | ⟨b30, l⟩
  · simp at hl
  rcases l with _ | ⟨b31, l⟩
  · simp at hl
  rcases l with _ | ⟨b32, l⟩
  rotate_left
  · simp at hl
  kernel_rfl
set_option maxRecDepth 100000 in
theorem field39_2 (i : Int) (A : Option Addr) (n c : Nat) (B : Option Addr) (m d : Nat) (k : Sc) (e : Int) (W : World) : (Instr.field 39 (.agg (sgnV i A n c B m d k e).toArray) 2).run Tryd.prog W = .ok (.int .i64 e) W := by
  obtain ⟨⟨l, hl⟩, h, n'⟩ := k
  rcases l with _ | ⟨b0, l⟩
  · simp at hl
  rcases l with _ | ⟨b1, l⟩
  · simp at hl
  rcases l with _ | ⟨b2, l⟩
  · simp at hl
  rcases l with _ | ⟨b3, l⟩
  · simp at hl
  rcases l with _ | ⟨b4, l⟩
  · simp at hl
  rcases l with _ | ⟨b5, l⟩
  · simp at hl
  rcases l with _ | ⟨b6, l⟩
  · simp at hl
  rcases l with _ | ⟨b7, l⟩
  · simp at hl
  rcases l with _ | ⟨b8, l⟩
  · simp at hl
  rcases l with _ | ⟨b9, l⟩
  · simp at hl
  rcases l with _ | ⟨b10, l⟩
  · simp at hl
  rcases l with _ | ⟨b11, l⟩
  · simp at hl
  rcases l with _ | ⟨b12, l⟩
  · simp at hl
  rcases l with _ | ⟨b13, l⟩
  · simp at hl
  rcases l with _ | ⟨b14, l⟩
  · simp at hl
  rcases l with _ | ⟨b15, l⟩
  · simp at hl
  rcases l with _ | ⟨b16, l⟩
  · simp at hl
  rcases l with _ | ⟨b17, l⟩
  · simp at hl
  rcases l with _ | ⟨b18, l⟩
  · simp at hl
  rcases l with _ | ⟨b19, l⟩
  · simp at hl
  rcases l with _ | ⟨b20, l⟩
  · simp at hl
  rcases l with _ | ⟨b21, l⟩
  · simp at hl
  rcases l with _ | ⟨b22, l⟩
  · simp at hl
  rcases l with _ | ⟨b23, l⟩
  · simp at hl
  rcases l with _ | ⟨b24, l⟩
  · simp at hl
  rcases l with _ | ⟨b25, l⟩
  · simp at hl
  rcases l with _ | ⟨b26, l⟩
  · simp at hl
  rcases l with _ | ⟨b27, l⟩
  · simp at hl
  rcases l with _ | ⟨b28, l⟩
  · simp at hl
  rcases l with _ | ⟨b29, l⟩
  · simp at hl
  rcases l with _ | ⟨b30, l⟩
  · simp at hl
  rcases l with _ | ⟨b31, l⟩
  · simp at hl
  rcases l with _ | ⟨b32, l⟩
  rotate_left
  · simp at hl
  kernel_rfl
theorem u8_wrap (x : Int) : ∃ a : UInt8, IntKind.u8.wrap x = (a.toNat : Int) :=
  ⟨UInt8.ofNat (x % 256).toNat, by
    have h1 : 0 ≤ x % 256 := Int.emod_nonneg _ (by decide)
    have h2 : x % 256 < 256 := Int.emod_lt_of_pos _ (by decide)
    simp [IntKind.wrap, IntKind.bits, IntKind.signed]
    omega⟩
theorem sec_seth (k : Sc) (h : Int) : (secV k).toArray.setIfInBounds 32 (.int .i64 h) = (secV ⟨k.s, h, k.n⟩).toArray := by
  rw [List.setIfInBounds_toArray]
  unfold secV
  rw [List.set_append_right _ _ (by rw [sumC_len]; omega), sumC_len]
  rfl
theorem sec_sum {W : World} {B : Nat} {t : TypeId} {k : Sc} (h : Blk W B t (secV k).toArray) : W.rangeAt B 0 (sumC k.s) := by unfold secV at h; exact blk_left h
theorem pub_fresh {k : Sc} (h : validS k = true) : pubS ⟨k.s, k.h, 0⟩ = pubS k := by
  have h' : validS ⟨k.s, k.h, 0⟩ = true := by
    unfold validS at h ⊢
    rw [decide_eq_true_eq] at h ⊢
    exact ⟨h.1, h.2.1, by dsimp only; omega, by dsimp only; exact Int.pow_nonneg (by omega)⟩
  unfold pubS
  rw [if_pos h, if_pos h']
theorem pub_bad {k : Sc} (h : validS k = false) : pubS k = (z32, 161) := by unfold pubS; rw [if_neg (by rw [h]; decide)]
theorem sign_bad {k : Sc} (bs : List UInt8) (h : validS k = false) : signS k bs = (sg0, sc0, 161) := by unfold signS; rw [if_neg (by rw [h]; decide)]
theorem sign_lens (k : Sc) (bs : List UInt8) (hv : validS k = true) : (signS k bs).1.ch.length ≤ 67 ∧ (signS k bs).1.pa.length ≤ 4 := by
  obtain ⟨H, N, e1, h2, e3, h4, _, _⟩ := valid_of hv
  by_cases h : N = 2 ^ H
  · rw [sign_used bs hv e3 e1 h]; exact ⟨Nat.zero_le _, Nat.zero_le _⟩
  · obtain ⟨ch, pa, hS, h5, h6, _⟩ := sign_ok bs hv e3 e1 (by omega)
    rw [hS]; exact ⟨by dsimp only; omega, by dsimp only; omega⟩
def spSgn (S : Sg × Sc × Int) : Spec := ⟨fun v W => ∃ (C : Option Addr) (n c : Nat) (D : Option Addr) (m d : Nat), v = .agg (sgnV S.1.i C n c D m d S.2.1 S.2.2).toArray ∧ TRd W 26 32 C n (S.1.ch.flatMap sumC) ∧ TRd W 26 32 D m (S.1.pa.flatMap sumC), fun _ _ _ ⟨C, n, c, D, m, d, h1, h2, h3⟩ hb => ⟨C, n, c, D, m, d, h1, h2.below hb, h3.below hb⟩⟩

set_option maxRecDepth 100000 in
set_option maxHeartbeats 2000000 in
theorem SignSecrets_any (As : Option Addr) (ls cs : Nat) (bs : List UInt8) (x0 x1 x2 x3 : Int) (A : Option Addr) (len cap : Nat) (bs2 : List UInt8) (w : World) (hg : Globs w) (hrs : Rd w 1 As ls (bs.map byteV)) (hx2 : IntKind.i64.wrap x2 = x2) (hx3 : IntKind.i64.wrap x3 = x3) (hr : Rd w 1 A len (bs2.map byteV)) (hlc : len ≤ cap) :
    Calls Tryd.prog 7 #[.slice As ls cs, .agg #[.int .i8 x0, .int .i8 x1, .int .i8 x2, .int .i8 x3], .slice A len cap] w fun e w' => e = .returned (.bool true) ∧ Below w.heap.size w w' := by
  obtain ⟨i32, hi32, hz32, hs32, hy32⟩ := info_parts info32
  obtain ⟨i37, hi37, hz37, _, _⟩ := info_parts info37
  obtain ⟨i28, hi28, hz28, _, _⟩ := info_parts info28
  obtain ⟨i39, hi39, hz39, _, _⟩ := info_parts info39
  obtain ⟨d28, hd28, hrow28⟩ := und28
  obtain ⟨d37, hd37, hrow37⟩ := und37
  obtain ⟨d39, hd39, hrow39⟩ := und39
  obtain ⟨a, wa⟩ : ∃ a : UInt8, IntKind.u8.wrap x0 = (a.toNat : Int) := u8_wrap x0
  obtain ⟨b, wb⟩ : ∃ a : UInt8, IntKind.u8.wrap x1 = (a.toNat : Int) := u8_wrap x1
  go_enter Tryd.func7, Tryd.ntmps7
  go_upto_region 1 with fail
  obtain ⟨w1, hw1⟩ : ∃ v, v = w.alloc (.cells #[.int .i8 x0, .int .i8 x1, .int .i8 x2, .int .i8 x3] 55) := ⟨_, rfl⟩
  have hB1 : Below w.heap.size w w1 := by rw [hw1]; exact (Below.refl _ _).alloc (Nat.le_refl _) _
  have hX1 : Blk w1 w.heap.size 55 #[.int .i8 x0, .int .i8 x1, .int .i8 x2, .int .i8 x3] := by rw [hw1]; exact Blk.new _ _ _
  rw [← hw1]
  clear hw1
  have HB := Lib.hid hB1
  have HW := Lib.hid hX1
  have Hg := Lib.hid (hg.below hB1)
  have Hg0 := Lib.hid hg
  have Hr0 := Lib.hid hr
  have Hs := Lib.hid (hrs.below hB1)
  have Hr := Lib.hid (hr.below hB1)
  clear hB1 hX1 hg hrs hr
  go_upto_region 2 with fail
  refine (sanity_any w1 Hg.out).mono ?_
  rintro e v1 ⟨rfl, hb_⟩
  replace HB := Lib.hid (HB.out.trans (hb_.mono HB.out.size))
  replace HW := Lib.hid (HW.out.below hb_ HW.out.lt)
  replace Hg := Lib.hid (Hg.out.below hb_)
  replace Hs := Lib.hid (Hs.out.below hb_)
  replace Hr := Lib.hid (Hr.out.below hb_)
  clear hb_
  have cx0 : v1.cell? ⟨w.heap.size, 0, none⟩ = some (.int .i8 x0) := by rw [HW.out.cell]; rfl
  have cx1 : v1.cell? ⟨w.heap.size, 1, none⟩ = some (.int .i8 x1) := by rw [HW.out.cell]; rfl
  go_upto_region 3 with fail
  refine (Secret_any As ls cs bs a b v1 Hs.out).mono ?_
  rintro e v2 ⟨rfl, hb_⟩
  replace HB := Lib.hid (HB.out.trans (hb_.mono HB.out.size))
  replace HW := Lib.hid (HW.out.below hb_ HW.out.lt)
  replace Hg := Lib.hid (Hg.out.below hb_)
  replace Hs := Lib.hid (Hs.out.below hb_)
  replace Hr := Lib.hid (Hr.out.below hb_)
  clear hb_
  obtain ⟨k, hk⟩ : ∃ k, k = secS bs a b := ⟨_, rfl⟩
  rw [← hk]
  obtain ⟨H, N, e1, hH, e3, hN, hv⟩ := secS_valid bs a b
  rw [← hk] at e1 e3 hv
  have E1 := Lib.hid e1
  have E3 := Lib.hid e3
  have HV := Lib.hid hv
  clear hk e1 e3 hv cx0 cx1 wa wb
  clear Hs
  obtain ⟨v3a, hv3a⟩ : ∃ v, v = (v2.alloc (.cells (secV sc0).toArray 28)) := ⟨_, rfl⟩
  obtain ⟨X8, hX8⟩ : ∃ v, v = v2.heap.size := ⟨_, rfl⟩
  have hNX8 : Blk (v2.alloc (.cells (secV sc0).toArray 28)) X8 28 (secV sc0).toArray := by
    have := Blk.new v2 28 (secV sc0).toArray
    skip
    rw [hX8]; exact this
  rw [← hv3a] at hNX8
  have hbA : Below v2.heap.size v2 v3a := by
    rw [hv3a]; exact (Below.refl _ _).alloc (by simp) _
  have HNX8 := Lib.hid hNX8
  have hkX8 := (KeptIn.refl (fun b => b ≠ X8) v3a).setRow (g := X8) (fun h => h rfl) (secV k).toArray
  replace hNX8 : Blk (v3a.setRow X8 (secV k).toArray) X8 28 (secV k).toArray := setRow_heap _ _ _ _ _ _ HNX8.out
  obtain ⟨v3, hv3⟩ : ∃ v, v = (v3a.setRow X8 (secV k).toArray) := ⟨_, rfl⟩
  have hbB : Below v2.heap.size v2 v3 := by rw [hv3]; exact (Below.setRow hbA (show v2.heap.size ≤ X8 by omega) _)
  rw [← hv3] at hNX8
  have HBX8 := Lib.hid hNX8
  have Hv3a := Lib.hid hv3a
  have Hv3 := Lib.hid hv3
  have HEX8 := Lib.hid hX8
  clear hNX8 hkX8 hv3a hv3 hbA
  have hlX8 : w.heap.size ≤ X8 := by have := HB.out.size; omega
  have hoX8 : w.heap.size < X8 := by have := HW.out.lt; omega
  clear hX8
  go_upto_region 3 with (first | (refine wpList_alloc0 rfl 28 rfl (secV sc0).toArray _ i28 hi28 hz28 rfl ?_; simp only [Act.put, List.setIfInBounds_toArray, List.set_cons_succ, List.set_cons_zero]; try simp only [World.size_alloc]) | (rw [← Hv3a.out, ← HEX8.out]; refine wpList_store_row rfl 28 (.tmp 8) (.tmp 27) rfl X8 (secV k).toArray rfl rfl 28 _ HNX8.out (size28 _ (sec_size _)) ((sec_size _).trans (sec_size _).symm) (sec_one _) ?_; rw [← Hv3.out]))
  replace HB := Lib.hid (HB.out.trans (hbB.mono HB.out.size))
  replace HW := Lib.hid (HW.out.below hbB HW.out.lt)
  replace Hg := Lib.hid (Hg.out.below hbB)
  replace Hr := Lib.hid (Hr.out.below hbB)
  clear hbB
  clear HNX8 HEX8 Hv3a Hv3
  go_upto_region 4 with fail
  refine (Limited_any A len cap 60 bs2 v3 Hr.out hlc (by omega)).mono ?_
  rintro e v4 ⟨⟨len', rfl, hl1, hl2, hr'⟩, hw'⟩
  subst hw'
  obtain ⟨B, hB⟩ : ∃ B, B = bs2.take 60 := ⟨_, rfl⟩
  rw [← hB] at hr'
  have Hb := Lib.hid hr'
  have HBl := Lib.hid (show len' ≤ bs2.length by have := hr'.len1; rw [hB, List.length_take] at this; omega)
  clear hr' hB
  clear Hr
  have Hk := Lib.hid (Blk.range HBX8.out)
  obtain ⟨v5a, hv5a⟩ : ∃ v, v = (v4.alloc (.cells (secV sc0).toArray 28)) := ⟨_, rfl⟩
  obtain ⟨X10, hX10⟩ : ∃ v, v = v4.heap.size := ⟨_, rfl⟩
  have hNX10 : Blk (v4.alloc (.cells (secV sc0).toArray 28)) X10 28 (secV sc0).toArray := by
    have := Blk.new v4 28 (secV sc0).toArray
    skip
    rw [hX10]; exact this
  rw [← hv5a] at hNX10
  have hbA : Below v4.heap.size v4 v5a := by
    rw [hv5a]; exact (Below.refl _ _).alloc (by simp) _
  have HNX10 := Lib.hid hNX10
  have hkX10 := (KeptIn.refl (fun b => b ≠ X10) v5a).setRow (g := X10) (fun h => h rfl) (secV k).toArray
  replace hNX10 : Blk (v5a.setRow X10 (secV k).toArray) X10 28 (secV k).toArray := setRow_heap _ _ _ _ _ _ HNX10.out
  obtain ⟨v5, hv5⟩ : ∃ v, v = (v5a.setRow X10 (secV k).toArray) := ⟨_, rfl⟩
  have hbB : Below v4.heap.size v4 v5 := by rw [hv5]; exact (Below.setRow hbA (show v4.heap.size ≤ X10 by omega) _)
  rw [← hv5] at hNX10
  have HBX10 := Lib.hid hNX10
  have Hv5a := Lib.hid hv5a
  have Hv5 := Lib.hid hv5
  have HEX10 := Lib.hid hX10
  clear hNX10 hkX10 hv5a hv5 hbA
  have hlX10 : w.heap.size ≤ X10 := by have := HB.out.size; omega
  have hoX10 : w.heap.size < X10 := by have := HW.out.lt; omega
  have hoX8X10 : X8 < X10 := by have := HBX8.out.lt; omega
  clear hX10
  go_upto_region 5 with (first | (refine wpList_alloc0 rfl 28 rfl (secV sc0).toArray _ i28 hi28 hz28 rfl ?_; simp only [Act.put, List.setIfInBounds_toArray, List.set_cons_succ, List.set_cons_zero]; try simp only [World.size_alloc]) | (rw [← Hv5a.out, ← HEX10.out]; refine wpList_store_row rfl 28 (.tmp 10) (.tmp 30) rfl X10 (secV k).toArray rfl rfl 28 _ HNX10.out (size28 _ (sec_size _)) ((sec_size _).trans (sec_size _).symm) (sec_one _) ?_; rw [← Hv5.out]) | (refine wpList_load_mid rfl 28 (.tmp 8) rfl X8 0 rfl (secV k) d28 Hk.out hd28 hrow28 (by rw [secV_len]; kernel_rfl) ?_))
  replace HB := Lib.hid (HB.out.trans (hbB.mono HB.out.size))
  replace HW := Lib.hid (HW.out.below hbB HW.out.lt)
  replace Hg := Lib.hid (Hg.out.below hbB)
  replace HBX8 := Lib.hid (HBX8.out.below hbB HBX8.out.lt)
  replace Hb := Lib.hid (Hb.out.below hbB)
  clear hbB
  clear HNX10 HEX10 Hv5a Hv5
  have fr2 := HBX10.out.frozen 33
  have c2 : v5.cell? ⟨X10, 33, none⟩ = some (.int .i64 (N : Int)) := by rw [HBX10.out.cell, List.getElem?_toArray, sec_n, E3.out]
  go_upto_region 6 with fail
  clear fr2 c2 Hk
  obtain ⟨v6, hv6⟩ : ∃ v, v = v5.setCell ⟨X10, 33, none⟩ (.int .i64 0) := ⟨_, rfl⟩
  rw [← hv6]
  have hkx := (KeptIn.refl (fun b => b ≠ X10) v5).setAt (p := ⟨X10, 33, none⟩) (fun h => h rfl) (.int .i64 0)
  rw [← hv6] at hkx
  have hXX : Blk v6 X10 28 (secV ⟨k.s, k.h, 0⟩).toArray := by
    have := heap_setCell_same v5 X10 33 _ 28 (.int .i64 0) HBX10.out
    rw [sec_set] at this
    rw [hv6]; exact this
  replace HB := Lib.hid (show Below w.heap.size w v6 by rw [hv6]; exact Below.setCell HB.out (by omega) _)
  replace HW := Lib.hid (HW.out.keptIn hkx (show w.heap.size ≠ X10 by omega))
  have hg1 := Hg0.out.size
  replace Hg := Lib.hid (show Globs _ from Hg.out.keptIn hkx (show (0 : Nat) ≠ X10 by omega) (show (1 : Nat) ≠ X10 by omega))
  replace HBX8 := Lib.hid (HBX8.out.keptIn hkx (show X8 ≠ X10 by omega))
  replace Hb := Lib.hid (Hb.out.keptIn hkx (fun b off h0 e => by have := Hr0.out.len1; have h3 := HBl.out; have := Hr0.out.lt (by omega) (show 0 < len by omega) e; omega))
  replace HBX10 := Lib.hid hXX
  clear hXX hkx hv6
  have Hk := Lib.hid (Blk.range HBX8.out)
  have hp := pub_ok HV.out
  go_upto_region 7 with (refine wpList_load_mid rfl 28 (.tmp 8) rfl X8 0 rfl (secV k) d28 Hk.out hd28 hrow28 (by rw [secV_len]; kernel_rfl) ?_)
  refine (Public_any k v6 Hg.out).mono ?_
  rintro e v7 ⟨rfl, hb_⟩
  replace HB := Lib.hid (HB.out.trans (hb_.mono HB.out.size))
  replace HW := Lib.hid (HW.out.below hb_ HW.out.lt)
  replace Hg := Lib.hid (Hg.out.below hb_)
  replace HBX8 := Lib.hid (HBX8.out.below hb_ HBX8.out.lt)
  replace Hb := Lib.hid (Hb.out.below hb_)
  replace HBX10 := Lib.hid (HBX10.out.below hb_ HBX10.out.lt)
  clear hb_
  rw [hp]
  clear Hk
  obtain ⟨P, hP⟩ : ∃ P, P = (pubS k).1 := ⟨_, rfl⟩
  rw [← hP]
  have HP := Lib.hid hP
  clear hP hp
  obtain ⟨v8a, hv8a⟩ : ∃ v, v = (v7.alloc (.cells zero32 26)) := ⟨_, rfl⟩
  obtain ⟨X11, hX11⟩ : ∃ v, v = v7.heap.size := ⟨_, rfl⟩
  have hNX11 : Blk (v7.alloc (.cells zero32 26)) X11 26 zero32 := by
    have := Blk.new v7 26 zero32
    skip
    rw [hX11]; exact this
  rw [← hv8a] at hNX11
  have hbA : Below v7.heap.size v7 v8a := by
    rw [hv8a]; exact (Below.refl _ _).alloc (by simp) _
  have HNX11 := Lib.hid hNX11
  have hkX11 := (KeptIn.refl (fun b => b ≠ X11) v8a).setRow (g := X11) (fun h => h rfl) (sumC P).toArray
  replace hNX11 : Blk (v8a.setRow X11 (sumC P).toArray) X11 26 (sumC P).toArray := setRow_heap _ _ _ _ _ _ HNX11.out
  obtain ⟨v8, hv8⟩ : ∃ v, v = (v8a.setRow X11 (sumC P).toArray) := ⟨_, rfl⟩
  have hbB : Below v7.heap.size v7 v8 := by rw [hv8]; exact (Below.setRow hbA (show v7.heap.size ≤ X11 by omega) _)
  rw [← hv8] at hNX11
  have HBX11 := Lib.hid hNX11
  have Hv8a := Lib.hid hv8a
  have Hv8 := Lib.hid hv8
  have HEX11 := Lib.hid hX11
  clear hNX11 hkX11 hv8a hv8 hbA
  have hlX11 : w.heap.size ≤ X11 := by have := HB.out.size; omega
  have hoX11 : w.heap.size < X11 := by have := HW.out.lt; omega
  have hoX8X11 : X8 < X11 := by have := HBX8.out.lt; omega
  have hoX10X11 : X10 < X11 := by have := HBX10.out.lt; omega
  clear hX11
  go_upto_region 7 with (first | (refine wpList_alloc0 rfl 26 rfl zero32 _ i32 hi32 hz32 rfl ?_; simp only [Act.put, List.setIfInBounds_toArray, List.set_cons_succ, List.set_cons_zero]; try simp only [World.size_alloc]) | (rw [← Hv8a.out, ← HEX11.out]; refine wpList_store_row rfl 26 (.tmp 11) (.tmp 35) rfl X11 (sumC P).toArray rfl rfl 26 _ HNX11.out (size32 _ (sum_size _)) ((zero32_size).trans (sum_size _).symm) (all_oneCell_toArray (oneB _)) ?_; rw [← Hv8.out]))
  replace HB := Lib.hid (HB.out.trans (hbB.mono HB.out.size))
  replace HW := Lib.hid (HW.out.below hbB HW.out.lt)
  replace Hg := Lib.hid (Hg.out.below hbB)
  replace HBX8 := Lib.hid (HBX8.out.below hbB HBX8.out.lt)
  replace Hb := Lib.hid (Hb.out.below hbB)
  replace HBX10 := Lib.hid (HBX10.out.below hbB HBX10.out.lt)
  clear hbB
  clear HNX11 HEX11 Hv8a Hv8
  have Hk := Lib.hid (Blk.range HBX10.out)
  have hp : pubS ⟨k.s, k.h, 0⟩ = (P, 0) := by rw [pub_fresh HV.out, HP.out, ← pub_ok HV.out]
  go_upto_region 8 with (refine wpList_load_mid rfl 28 (.tmp 10) rfl X10 0 rfl (secV ⟨k.s, k.h, 0⟩) d28 Hk.out hd28 hrow28 (by rw [secV_len]; kernel_rfl) ?_)
  refine (Public_any ⟨k.s, k.h, 0⟩ v8 Hg.out).mono ?_
  rintro e v9 ⟨rfl, hb_⟩
  replace HB := Lib.hid (HB.out.trans (hb_.mono HB.out.size))
  replace HW := Lib.hid (HW.out.below hb_ HW.out.lt)
  replace Hg := Lib.hid (Hg.out.below hb_)
  replace HBX8 := Lib.hid (HBX8.out.below hb_ HBX8.out.lt)
  replace Hb := Lib.hid (Hb.out.below hb_)
  replace HBX10 := Lib.hid (HBX10.out.below hb_ HBX10.out.lt)
  replace HBX11 := Lib.hid (HBX11.out.below hb_ HBX11.out.lt)
  clear hb_
  rw [hp]
  clear Hk hp
  obtain ⟨v10a, hv10a⟩ : ∃ v, v = (v9.alloc (.cells zero32 26)) := ⟨_, rfl⟩
  obtain ⟨X13, hX13⟩ : ∃ v, v = v9.heap.size := ⟨_, rfl⟩
  have hNX13 : Blk (v9.alloc (.cells zero32 26)) X13 26 zero32 := by
    have := Blk.new v9 26 zero32
    skip
    rw [hX13]; exact this
  rw [← hv10a] at hNX13
  have hbA : Below v9.heap.size v9 v10a := by
    rw [hv10a]; exact (Below.refl _ _).alloc (by simp) _
  have HNX13 := Lib.hid hNX13
  have hkX13 := (KeptIn.refl (fun b => b ≠ X13) v10a).setRow (g := X13) (fun h => h rfl) (sumC P).toArray
  replace hNX13 : Blk (v10a.setRow X13 (sumC P).toArray) X13 26 (sumC P).toArray := setRow_heap _ _ _ _ _ _ HNX13.out
  obtain ⟨v10, hv10⟩ : ∃ v, v = (v10a.setRow X13 (sumC P).toArray) := ⟨_, rfl⟩
  have hbB : Below v9.heap.size v9 v10 := by rw [hv10]; exact (Below.setRow hbA (show v9.heap.size ≤ X13 by omega) _)
  rw [← hv10] at hNX13
  have HBX13 := Lib.hid hNX13
  have Hv10a := Lib.hid hv10a
  have Hv10 := Lib.hid hv10
  have HEX13 := Lib.hid hX13
  clear hNX13 hkX13 hv10a hv10 hbA
  have hlX13 : w.heap.size ≤ X13 := by have := HB.out.size; omega
  have hoX13 : w.heap.size < X13 := by have := HW.out.lt; omega
  have hoX8X13 : X8 < X13 := by have := HBX8.out.lt; omega
  have hoX10X13 : X10 < X13 := by have := HBX10.out.lt; omega
  have hoX11X13 : X11 < X13 := by have := HBX11.out.lt; omega
  clear hX13
  go_upto_region 8 with (first | (refine wpList_alloc0 rfl 26 rfl zero32 _ i32 hi32 hz32 rfl ?_; simp only [Act.put, List.setIfInBounds_toArray, List.set_cons_succ, List.set_cons_zero]; try simp only [World.size_alloc]) | (rw [← Hv10a.out, ← HEX13.out]; refine wpList_store_row rfl 26 (.tmp 13) (.tmp 40) rfl X13 (sumC P).toArray rfl rfl 26 _ HNX13.out (size32 _ (sum_size _)) ((zero32_size).trans (sum_size _).symm) (all_oneCell_toArray (oneB _)) ?_; rw [← Hv10.out]))
  replace HB := Lib.hid (HB.out.trans (hbB.mono HB.out.size))
  replace HW := Lib.hid (HW.out.below hbB HW.out.lt)
  replace Hg := Lib.hid (Hg.out.below hbB)
  replace HBX8 := Lib.hid (HBX8.out.below hbB HBX8.out.lt)
  replace Hb := Lib.hid (Hb.out.below hbB)
  replace HBX10 := Lib.hid (HBX10.out.below hbB HBX10.out.lt)
  replace HBX11 := Lib.hid (HBX11.out.below hbB HBX11.out.lt)
  clear hbB
  clear HNX13 HEX13 Hv10a Hv10
  have cx2 : v10.cell? ⟨w.heap.size, 2, none⟩ = some (.int .i8 x2) := by rw [HW.out.cell]; rfl
  have cx3 : v10.cell? ⟨w.heap.size, 3, none⟩ = some (.int .i8 x3) := by rw [HW.out.cell]; rfl
  have Hk := Lib.hid (Blk.range HBX8.out)
  have Hk0 := Lib.hid (sec_sum HBX8.out)
  obtain ⟨v11a, hv11a⟩ : ∃ v, v = (v10.alloc (.cells (secV sc0).toArray 28)) := ⟨_, rfl⟩
  obtain ⟨X15, hX15⟩ : ∃ v, v = v10.heap.size := ⟨_, rfl⟩
  have hNX15 : Blk (v10.alloc (.cells (secV sc0).toArray 28)) X15 28 (secV sc0).toArray := by
    have := Blk.new v10 28 (secV sc0).toArray
    skip
    rw [hX15]; exact this
  rw [← hv11a] at hNX15
  have hbA : Below v10.heap.size v10 v11a := by
    rw [hv11a]; exact (Below.refl _ _).alloc (by simp) _
  have HNX15 := Lib.hid hNX15
  have hkX15 := (KeptIn.refl (fun b => b ≠ X15) v11a).setRow (g := X15) (fun h => h rfl) (secV ⟨k.s, x2, x3⟩).toArray
  replace hNX15 : Blk (v11a.setRow X15 (secV ⟨k.s, x2, x3⟩).toArray) X15 28 (secV ⟨k.s, x2, x3⟩).toArray := setRow_heap _ _ _ _ _ _ HNX15.out
  obtain ⟨v11, hv11⟩ : ∃ v, v = (v11a.setRow X15 (secV ⟨k.s, x2, x3⟩).toArray) := ⟨_, rfl⟩
  have hbB : Below v10.heap.size v10 v11 := by rw [hv11]; exact (Below.setRow hbA (show v10.heap.size ≤ X15 by omega) _)
  rw [← hv11] at hNX15
  have HBX15 := Lib.hid hNX15
  have Hv11a := Lib.hid hv11a
  have Hv11 := Lib.hid hv11
  have HEX15 := Lib.hid hX15
  clear hNX15 hkX15 hv11a hv11 hbA
  have hlX15 : w.heap.size ≤ X15 := by have := HB.out.size; omega
  have hoX15 : w.heap.size < X15 := by have := HW.out.lt; omega
  have hoX8X15 : X8 < X15 := by have := HBX8.out.lt; omega
  have hoX10X15 : X10 < X15 := by have := HBX10.out.lt; omega
  have hoX11X15 : X11 < X15 := by have := HBX11.out.lt; omega
  have hoX13X15 : X13 < X15 := by have := HBX13.out.lt; omega
  clear hX15
  go_upto_region 9 with (first | (refine wpList_alloc0 rfl 28 rfl (secV sc0).toArray _ i28 hi28 hz28 rfl ?_; simp only [Act.put, List.setIfInBounds_toArray, List.set_cons_succ, List.set_cons_zero]; try simp only [World.size_alloc]) | (rw [← Hv11a.out, ← HEX15.out]; refine wpList_store_row rfl 28 (.tmp 15) (.tmp 50) rfl X15 (secV ⟨k.s, x2, x3⟩).toArray rfl rfl 28 _ HNX15.out (size28 _ (sec_size _)) ((sec_size _).trans (sec_size _).symm) (sec_one _) ?_; rw [← Hv11.out]) | (refine wpList_load_mid rfl 26 (.tmp 42) rfl X8 0 rfl (sumC k.s) _ Hk0.out und32 rfl (by rw [sumC_len]; kernel_rfl) ?_) | (refine wpList_buildN rfl 28 _ rfl [(0, .agg (sumC k.s).toArray), (1, .int .i64 x2), (2, .int .i64 x3)] rfl _ (built28s _ _ _) ?_))
  replace HB := Lib.hid (HB.out.trans (hbB.mono HB.out.size))
  replace HW := Lib.hid (HW.out.below hbB HW.out.lt)
  replace Hg := Lib.hid (Hg.out.below hbB)
  replace HBX8 := Lib.hid (HBX8.out.below hbB HBX8.out.lt)
  replace Hb := Lib.hid (Hb.out.below hbB)
  replace HBX10 := Lib.hid (HBX10.out.below hbB HBX10.out.lt)
  replace HBX11 := Lib.hid (HBX11.out.below hbB HBX11.out.lt)
  replace HBX13 := Lib.hid (HBX13.out.below hbB HBX13.out.lt)
  clear hbB
  clear HNX15 HEX15 Hv11a Hv11
  clear Hk Hk0 cx2 cx3
  clear HW
  have Hk := Lib.hid (Blk.range HBX15.out)
  go_upto_region 10 with (refine wpList_load_mid rfl 28 (.tmp 15) rfl X15 0 rfl (secV ⟨k.s, x2, x3⟩) d28 Hk.out hd28 hrow28 (by rw [secV_len]; kernel_rfl) ?_)
  refine (RValid_any ⟨k.s, x2, x3⟩ v11).mono ?_
  rintro e v12 ⟨rfl, hb_⟩
  replace HB := Lib.hid (HB.out.trans (hb_.mono HB.out.size))
  replace Hg := Lib.hid (Hg.out.below hb_)
  replace HBX8 := Lib.hid (HBX8.out.below hb_ HBX8.out.lt)
  replace Hb := Lib.hid (Hb.out.below hb_)
  replace HBX10 := Lib.hid (HBX10.out.below hb_ HBX10.out.lt)
  replace HBX11 := Lib.hid (HBX11.out.below hb_ HBX11.out.lt)
  replace HBX13 := Lib.hid (HBX13.out.below hb_ HBX13.out.lt)
  replace HBX15 := Lib.hid (HBX15.out.below hb_ HBX15.out.lt)
  clear hb_
  clear Hk
  by_cases hvo : validS ⟨k.s, x2, x3⟩ = true
  · skip
    have hfr := HBX15.out.frozen 32
    have c1 : v12.cell? ⟨X15, 32, none⟩ = some (.int .i64 x2) := by rw [HBX15.out.cell, List.getElem?_toArray, sec_h]
    rw [hvo]
    go_upto_region 11 with fail
    clear hfr c1
    obtain ⟨v13, hv13⟩ : ∃ v, v = v12.setCell ⟨X15, 32, none⟩ (.int .i64 (-1)) := ⟨_, rfl⟩
    rw [← hv13]
    have hkx := (KeptIn.refl (fun b => b ≠ X15) v12).setAt (p := ⟨X15, 32, none⟩) (fun h => h rfl) (.int .i64 (-1))
    rw [← hv13] at hkx
    have hXX : Blk v13 X15 28 (secV ⟨k.s, -1, x3⟩).toArray := by
      have := heap_setCell_same v12 X15 32 _ 28 (.int .i64 (-1)) HBX15.out
      rw [sec_seth] at this
      rw [hv13]; exact this
    replace HB := Lib.hid (show Below w.heap.size w v13 by rw [hv13]; exact Below.setCell HB.out (by omega) _)
    have hg1 := Hg0.out.size
    replace Hg := Lib.hid (show Globs _ from Hg.out.keptIn hkx (show (0 : Nat) ≠ X15 by omega) (show (1 : Nat) ≠ X15 by omega))
    replace HBX8 := Lib.hid (HBX8.out.keptIn hkx (show X8 ≠ X15 by omega))
    replace Hb := Lib.hid (Hb.out.keptIn hkx (fun b off h0 e => by have := Hr0.out.len1; have h3 := HBl.out; have := Hr0.out.lt (by omega) (show 0 < len by omega) e; omega))
    replace HBX10 := Lib.hid (HBX10.out.keptIn hkx (show X10 ≠ X15 by omega))
    replace HBX11 := Lib.hid (HBX11.out.keptIn hkx (show X11 ≠ X15 by omega))
    replace HBX13 := Lib.hid (HBX13.out.keptIn hkx (show X13 ≠ X15 by omega))
    replace HBX15 := Lib.hid hXX
    clear hXX hkx hv13
    have hbad : validS ⟨k.s, -1, x3⟩ = false := by unfold validS; exact decide_eq_false (fun h => absurd h.1 (by dsimp only; omega))
    clear hvo
    obtain ⟨K, hK⟩ : ∃ K : Sc, K = ⟨k.s, -1, x3⟩ := ⟨_, rfl⟩
    rw [← hK] at HBX15 hbad
    clear hK
    have hp : pubS K = (z32, 161) := pub_bad hbad
    have Hk := Lib.hid (Blk.range HBX15.out)
    go_upto_region 12 with (refine wpList_load_mid rfl 28 (.tmp 15) rfl X15 0 rfl (secV K) d28 Hk.out hd28 hrow28 (by rw [secV_len]; kernel_rfl) ?_)
    refine (Public_any K v13 Hg.out).mono ?_
    rintro e v14 ⟨rfl, hb_⟩
    replace HB := Lib.hid (HB.out.trans (hb_.mono HB.out.size))
    replace Hg := Lib.hid (Hg.out.below hb_)
    replace HBX8 := Lib.hid (HBX8.out.below hb_ HBX8.out.lt)
    replace Hb := Lib.hid (Hb.out.below hb_)
    replace HBX10 := Lib.hid (HBX10.out.below hb_ HBX10.out.lt)
    replace HBX11 := Lib.hid (HBX11.out.below hb_ HBX11.out.lt)
    replace HBX13 := Lib.hid (HBX13.out.below hb_ HBX13.out.lt)
    replace HBX15 := Lib.hid (HBX15.out.below hb_ HBX15.out.lt)
    clear hb_
    rw [hp]
    clear Hk hp
    obtain ⟨v15a, hv15a⟩ : ∃ v, v = (v14.alloc (.cells zero32 26)) := ⟨_, rfl⟩
    obtain ⟨X16, hX16⟩ : ∃ v, v = v14.heap.size := ⟨_, rfl⟩
    have hNX16 : Blk (v14.alloc (.cells zero32 26)) X16 26 zero32 := by
      have := Blk.new v14 26 zero32
      skip
      rw [hX16]; exact this
    rw [← hv15a] at hNX16
    have hbA : Below v14.heap.size v14 v15a := by
      rw [hv15a]; exact (Below.refl _ _).alloc (by simp) _
    have HNX16 := Lib.hid hNX16
    have hkX16 := (KeptIn.refl (fun b => b ≠ X16) v15a).setRow (g := X16) (fun h => h rfl) (sumC z32).toArray
    replace hNX16 : Blk (v15a.setRow X16 (sumC z32).toArray) X16 26 (sumC z32).toArray := setRow_heap _ _ _ _ _ _ HNX16.out
    obtain ⟨v15, hv15⟩ : ∃ v, v = (v15a.setRow X16 (sumC z32).toArray) := ⟨_, rfl⟩
    have hbB : Below v14.heap.size v14 v15 := by rw [hv15]; exact (Below.setRow hbA (show v14.heap.size ≤ X16 by omega) _)
    rw [← hv15] at hNX16
    have HBX16 := Lib.hid hNX16
    have Hv15a := Lib.hid hv15a
    have Hv15 := Lib.hid hv15
    have HEX16 := Lib.hid hX16
    clear hNX16 hkX16 hv15a hv15 hbA
    have hlX16 : w.heap.size ≤ X16 := by have := HB.out.size; omega
    have hoX8X16 : X8 < X16 := by have := HBX8.out.lt; omega
    have hoX10X16 : X10 < X16 := by have := HBX10.out.lt; omega
    have hoX11X16 : X11 < X16 := by have := HBX11.out.lt; omega
    have hoX13X16 : X13 < X16 := by have := HBX13.out.lt; omega
    have hoX15X16 : X15 < X16 := by have := HBX15.out.lt; omega
    clear hX16
    go_upto_region 12 with (first | (refine wpList_alloc0 rfl 26 rfl zero32 _ i32 hi32 hz32 rfl ?_; simp only [Act.put, List.setIfInBounds_toArray, List.set_cons_succ, List.set_cons_zero]; try simp only [World.size_alloc]) | (rw [← Hv15a.out, ← HEX16.out]; refine wpList_store_row rfl 26 (.tmp 16) (.tmp 57) rfl X16 (sumC z32).toArray rfl rfl 26 _ HNX16.out (size32 _ (sum_size _)) ((zero32_size).trans (sum_size _).symm) (all_oneCell_toArray (oneB _)) ?_; rw [← Hv15.out]))
    replace HB := Lib.hid (HB.out.trans (hbB.mono HB.out.size))
    replace Hg := Lib.hid (Hg.out.below hbB)
    replace HBX8 := Lib.hid (HBX8.out.below hbB HBX8.out.lt)
    replace Hb := Lib.hid (Hb.out.below hbB)
    replace HBX10 := Lib.hid (HBX10.out.below hbB HBX10.out.lt)
    replace HBX11 := Lib.hid (HBX11.out.below hbB HBX11.out.lt)
    replace HBX13 := Lib.hid (HBX13.out.below hbB HBX13.out.lt)
    replace HBX15 := Lib.hid (HBX15.out.below hbB HBX15.out.lt)
    clear hbB
    clear HNX16 HEX16 Hv15a Hv15
    have HK := Lib.hid (sign_bad B hbad)
    clear hbad
    have hz1 := run_eql_sum P P
    rw [show decide (P = P) = true from decide_eq_true rfl] at hz1
    have hz2 := run_eql_sum z32 z32
    rw [show decide (z32 = z32) = true from decide_eq_true rfl] at hz2
    refine wp_region_flowF [59, 60, 61, 62, 63, 64, 65, 66, 67, 68, 69, 70, 71, 72, 73, 74, 75, 76, 77, 78, 79, 80, 81, 82, 83, 84, 85, 86, 87, 88, 89, 90, 91, 92, 93, 94, 95, 96, 97, 6] [(Spec.is (.bool true), false), (Spec.is (.bool true), false), (Spec.is (.int .i64 0), false), (Spec.is (.bool true), false), (Spec.is (.bool true), false), (Spec.is (.bool true), false), (Spec.is (.int .i64 0), false), (Spec.is (.bool true), false), (Spec.is (.bool true), false), (Spec.is (.bool true), false), (Spec.is (.agg (sumC P).toArray), false), (Spec.is (.agg (sumC P).toArray), false), (Spec.is (.bool true), false), (Spec.is (.bool true), false), (Spec.is (.bool true), false), (Spec.is (.int .i64 161), false), (Spec.is (.bool true), false), (Spec.is (.bool true), false), (Spec.is (.bool true), false), (Spec.is (.agg (sumC z32).toArray), false), (Spec.is (.agg (sumC z32).toArray), false), (Spec.is (.bool true), false), (Spec.is (.bool true), false), (Spec.is (.bool true), false), (Spec.is (.agg (secV K).toArray), false), (Spec.is (.slice A len' cap), false), (spSgn (signS K B), false), (Spec.is (.int .i64 161), false), (Spec.is (.bool true), false), (Spec.is (.bool true), false), (Spec.is (.bool true), false), (Spec.is (.agg (secV k).toArray), false), (Spec.is (.slice A len' cap), false), (spSgn (signS k B), false), (Spec.is (.agg (secV k).toArray), false), (Spec.is (.slice A len' cap), false), (spSgn (signS k B), false), (Spec.is (.bool true), false), (Spec.is (.bool true), false), (Spec.is (.bool true), false)] 98 (by kernel_rfl) rfl (by decide) rfl (by decide) (by kernel_rfl) ?_ ?_
    · refine ⟨?_, ?_, ?_, ?_, ?_, ?_, ?_, ?_, ?_, ?_, ?_, ?_, ?_, ?_, ?_, ?_, ?_, ?_, ?_, ?_, ?_, ?_, ?_, ?_, ?_, ?_, ?_, ?_, ?_, ?_, ?_, ?_, ?_, ?_, ?_, ?_, ?_, ?_, ?_, ?_, trivial⟩
      · intro a W hE hb hs
        have h7 : a.eval (.tmp 7) = .bool true := hb 7 (by decide)
        refine flow0 rfl ?_
        exact val_move _ rfl _ h7 ⟨rfl, trivial⟩
      · intro a W hE hb hs
        have h59 : a.eval (.tmp 59) = .bool true := hs 0 (by decide)
        refine flow0 rfl ?_
        exact val_move _ rfl _ h59 ⟨rfl, trivial⟩
      · intro a W hE hb hs
        have h12 : a.eval (.tmp 12) = .int .i64 0 := hb 12 (by decide)
        have h60 : a.eval (.tmp 60) = .bool true := hs 1 (by decide)
        refine flowY rfl rfl h60 ?_
        exact val_move _ rfl _ h12 ⟨rfl, trivial⟩
      · intro a W hE hb hs
        have h61 : a.eval (.tmp 61) = .int .i64 0 := hs 2 (by decide)
        have h60 : a.eval (.tmp 60) = .bool true := hs 1 (by decide)
        refine flowY rfl rfl h60 ?_
        intro K hK
        unfold Oper.wp execOp
        simp only [h61, BigFrame.eval_const]
        simp [go_sem]
        exact hK _ _ ⟨Below.refl _ _, rfl, trivial⟩
      · intro a W hE hb hs
        have h60 : a.eval (.tmp 60) = .bool true := hs 1 (by decide)
        have h62 : a.eval (.tmp 62) = .bool true := hs 3 (by decide)
        refine flow0 rfl ?_
        exact val_pick _ _ _ rfl true h60 _ (by rw [if_pos rfl]; exact h62) ⟨rfl, trivial⟩
      · intro a W hE hb hs
        have h63 : a.eval (.tmp 63) = .bool true := hs 4 (by decide)
        refine flow0 rfl ?_
        exact val_move _ rfl _ h63 ⟨rfl, trivial⟩
      · intro a W hE hb hs
        have h14 : a.eval (.tmp 14) = .int .i64 0 := hb 14 (by decide)
        have h64 : a.eval (.tmp 64) = .bool true := hs 5 (by decide)
        refine flowY rfl rfl h64 ?_
        exact val_move _ rfl _ h14 ⟨rfl, trivial⟩
      · intro a W hE hb hs
        have h65 : a.eval (.tmp 65) = .int .i64 0 := hs 6 (by decide)
        have h64 : a.eval (.tmp 64) = .bool true := hs 5 (by decide)
        refine flowY rfl rfl h64 ?_
        intro K hK
        unfold Oper.wp execOp
        simp only [h65, BigFrame.eval_const]
        simp [go_sem]
        exact hK _ _ ⟨Below.refl _ _, rfl, trivial⟩
      · intro a W hE hb hs
        have h64 : a.eval (.tmp 64) = .bool true := hs 5 (by decide)
        have h66 : a.eval (.tmp 66) = .bool true := hs 7 (by decide)
        refine flow0 rfl ?_
        exact val_pick _ _ _ rfl true h64 _ (by rw [if_pos rfl]; exact h66) ⟨rfl, trivial⟩
      · intro a W hE hb hs
        have h67 : a.eval (.tmp 67) = .bool true := hs 8 (by decide)
        refine flow0 rfl ?_
        exact val_move _ rfl _ h67 ⟨rfl, trivial⟩
      · intro a W hE hb hs
        have h11 : a.eval (.tmp 11) = .pointer (some ⟨X11, 0, none⟩) := hb 11 (by decide)
        have h68 : a.eval (.tmp 68) = .bool true := hs 9 (by decide)
        refine flowY rfl rfl h68 ?_
        exact val_load_row 26 _ rfl X11 0 h11 (sumC P) _ (Blk.range (HBX11.out.below (ext_below hE) HBX11.out.lt)) und32 rfl (by rw [sumC_len]; kernel_rfl) ⟨rfl, trivial⟩
      · intro a W hE hb hs
        have h13 : a.eval (.tmp 13) = .pointer (some ⟨X13, 0, none⟩) := hb 13 (by decide)
        have h68 : a.eval (.tmp 68) = .bool true := hs 9 (by decide)
        refine flowY rfl rfl h68 ?_
        exact val_load_row 26 _ rfl X13 0 h13 (sumC P) _ (Blk.range (HBX13.out.below (ext_below hE) HBX13.out.lt)) und32 rfl (by rw [sumC_len]; kernel_rfl) ⟨rfl, trivial⟩
      · intro a W hE hb hs
        have h69 : a.eval (.tmp 69) = .agg (sumC P).toArray := hs 10 (by decide)
        have h70 : a.eval (.tmp 70) = .agg (sumC P).toArray := hs 11 (by decide)
        have h68 : a.eval (.tmp 68) = .bool true := hs 9 (by decide)
        refine flowY rfl rfl h68 ?_
        intro K hK
        unfold Oper.wp execOp
        simp only [h69, h70]
        simp [go_sem, hz1]
        exact hK _ _ ⟨Below.refl _ _, rfl, trivial⟩
      · intro a W hE hb hs
        have h68 : a.eval (.tmp 68) = .bool true := hs 9 (by decide)
        have h71 : a.eval (.tmp 71) = .bool true := hs 12 (by decide)
        refine flow0 rfl ?_
        exact val_pick _ _ _ rfl true h68 _ (by rw [if_pos rfl]; exact h71) ⟨rfl, trivial⟩
      · intro a W hE hb hs
        have h72 : a.eval (.tmp 72) = .bool true := hs 13 (by decide)
        refine flow0 rfl ?_
        exact val_move _ rfl _ h72 ⟨rfl, trivial⟩
      · intro a W hE hb hs
        have h17 : a.eval (.tmp 17) = .int .i64 161 := hb 17 (by decide)
        have h73 : a.eval (.tmp 73) = .bool true := hs 14 (by decide)
        refine flowY rfl rfl h73 ?_
        exact val_move _ rfl _ h17 ⟨rfl, trivial⟩
      · intro a W hE hb hs
        have h74 : a.eval (.tmp 74) = .int .i64 161 := hs 15 (by decide)
        have h73 : a.eval (.tmp 73) = .bool true := hs 14 (by decide)
        refine flowY rfl rfl h73 ?_
        intro K hK
        unfold Oper.wp execOp
        simp only [h74, BigFrame.eval_const]
        simp [go_sem]
        exact hK _ _ ⟨Below.refl _ _, rfl, trivial⟩
      · intro a W hE hb hs
        have h73 : a.eval (.tmp 73) = .bool true := hs 14 (by decide)
        have h75 : a.eval (.tmp 75) = .bool true := hs 16 (by decide)
        refine flow0 rfl ?_
        exact val_pick _ _ _ rfl true h73 _ (by rw [if_pos rfl]; exact h75) ⟨rfl, trivial⟩
      · intro a W hE hb hs
        have h76 : a.eval (.tmp 76) = .bool true := hs 17 (by decide)
        refine flow0 rfl ?_
        exact val_move _ rfl _ h76 ⟨rfl, trivial⟩
      · intro a W hE hb hs
        have h16 : a.eval (.tmp 16) = .pointer (some ⟨X16, 0, none⟩) := hb 16 (by decide)
        have h77 : a.eval (.tmp 77) = .bool true := hs 18 (by decide)
        refine flowY rfl rfl h77 ?_
        exact val_load_row 26 _ rfl X16 0 h16 (sumC z32) _ (Blk.range (HBX16.out.below (ext_below hE) HBX16.out.lt)) und32 rfl (by rw [sumC_len]; kernel_rfl) ⟨rfl, trivial⟩
      · intro a W hE hb hs
        have h77 : a.eval (.tmp 77) = .bool true := hs 18 (by decide)
        refine flowY rfl rfl h77 ?_
        exact val_build 26 _ rfl [] (by show [] = _; rw []) _ (built32z) ⟨rfl, trivial⟩
      · intro a W hE hb hs
        have h78 : a.eval (.tmp 78) = .agg (sumC z32).toArray := hs 19 (by decide)
        have h79 : a.eval (.tmp 79) = .agg (sumC z32).toArray := hs 20 (by decide)
        have h77 : a.eval (.tmp 77) = .bool true := hs 18 (by decide)
        refine flowY rfl rfl h77 ?_
        intro K hK
        unfold Oper.wp execOp
        simp only [h78, h79]
        simp [go_sem, hz2]
        exact hK _ _ ⟨Below.refl _ _, rfl, trivial⟩
      · intro a W hE hb hs
        have h77 : a.eval (.tmp 77) = .bool true := hs 18 (by decide)
        have h80 : a.eval (.tmp 80) = .bool true := hs 21 (by decide)
        refine flow0 rfl ?_
        exact val_pick _ _ _ rfl true h77 _ (by rw [if_pos rfl]; exact h80) ⟨rfl, trivial⟩
      · intro a W hE hb hs
        have h81 : a.eval (.tmp 81) = .bool true := hs 22 (by decide)
        refine flow0 rfl ?_
        exact val_move _ rfl _ h81 ⟨rfl, trivial⟩
      · intro a W hE hb hs
        have h15 : a.eval (.tmp 15) = .pointer (some ⟨X15, 0, none⟩) := hb 15 (by decide)
        have h82 : a.eval (.tmp 82) = .bool true := hs 23 (by decide)
        refine flowY rfl rfl h82 ?_
        exact val_load_row 28 _ rfl X15 0 h15 (secV K) d28 (Blk.range (HBX15.out.below (ext_below hE) HBX15.out.lt)) hd28 hrow28 (by rw [secV_len]; kernel_rfl) ⟨rfl, trivial⟩
      · intro a W hE hb hs
        have h9 : a.eval (.tmp 9) = .slice A len' cap := hb 9 (by decide)
        have h82 : a.eval (.tmp 82) = .bool true := hs 23 (by decide)
        refine flowY rfl rfl h82 ?_
        exact val_move _ rfl _ h9 ⟨rfl, trivial⟩
      · intro a W hE hb hs
        have h83 : a.eval (.tmp 83) = .agg (secV K).toArray := hs 24 (by decide)
        have h84 : a.eval (.tmp 84) = .slice A len' cap := hs 25 (by decide)
        have h82 : a.eval (.tmp 82) = .bool true := hs 23 (by decide)
        refine flowY rfl rfl h82 ?_
        exact val_call 17 _ _ rfl (by kernel_rfl) [.agg (secV K).toArray, .slice A len' cap] (by show [a.eval (.tmp 83), a.eval (.tmp 84)] = _; rw [h83, h84]) ((made_any K A len' cap B W (Hg.out.below (ext_below hE)) (Hb.out.below (ext_below hE)) (by omega)).mono (by rintro e W' ⟨⟨C, n, c, D, m, d, rfl, _, _, hC, hD⟩, hb⟩; exact ⟨_, rfl, hb, ⟨C, n, c, D, m, d, rfl, hC, hD⟩, trivial⟩))
      · intro a W hE hb hs
        have h85 : ∃ (C : Option Addr) (n c : Nat) (D : Option Addr) (m d : Nat), (a.eval (.tmp 85)) = .agg (sgnV (signS K B).1.i C n c D m d (signS K B).2.1 (signS K B).2.2).toArray ∧ TRd W 26 32 C n ((signS K B).1.ch.flatMap sumC) ∧ TRd W 26 32 D m ((signS K B).1.pa.flatMap sumC) := hs 26 (by decide)
        have h82 : a.eval (.tmp 82) = .bool true := hs 23 (by decide)
        refine flowY rfl rfl h82 ?_
        obtain ⟨C, n, c, D, m, d, e85, _, _⟩ := h85
        rw [HK.out] at e85
        exact val_field 39 _ 2 rfl _ _ e85 (field39_2 _ _ _ _ _ _ _ _ _ _) ⟨rfl, trivial⟩
      · intro a W hE hb hs
        have h86 : a.eval (.tmp 86) = .int .i64 161 := hs 27 (by decide)
        have h82 : a.eval (.tmp 82) = .bool true := hs 23 (by decide)
        refine flowY rfl rfl h82 ?_
        intro K hK
        unfold Oper.wp execOp
        simp only [h86, BigFrame.eval_const]
        simp [go_sem]
        exact hK _ _ ⟨Below.refl _ _, rfl, trivial⟩
      · intro a W hE hb hs
        have h82 : a.eval (.tmp 82) = .bool true := hs 23 (by decide)
        have h87 : a.eval (.tmp 87) = .bool true := hs 28 (by decide)
        refine flow0 rfl ?_
        exact val_pick _ _ _ rfl true h82 _ (by rw [if_pos rfl]; exact h87) ⟨rfl, trivial⟩
      · intro a W hE hb hs
        have h88 : a.eval (.tmp 88) = .bool true := hs 29 (by decide)
        refine flow0 rfl ?_
        exact val_move _ rfl _ h88 ⟨rfl, trivial⟩
      · intro a W hE hb hs
        have h8 : a.eval (.tmp 8) = .pointer (some ⟨X8, 0, none⟩) := hb 8 (by decide)
        have h89 : a.eval (.tmp 89) = .bool true := hs 30 (by decide)
        refine flowY rfl rfl h89 ?_
        exact val_load_row 28 _ rfl X8 0 h8 (secV k) d28 (Blk.range (HBX8.out.below (ext_below hE) HBX8.out.lt)) hd28 hrow28 (by rw [secV_len]; kernel_rfl) ⟨rfl, trivial⟩
      · intro a W hE hb hs
        have h9 : a.eval (.tmp 9) = .slice A len' cap := hb 9 (by decide)
        have h89 : a.eval (.tmp 89) = .bool true := hs 30 (by decide)
        refine flowY rfl rfl h89 ?_
        exact val_move _ rfl _ h9 ⟨rfl, trivial⟩
      · intro a W hE hb hs
        have h90 : a.eval (.tmp 90) = .agg (secV k).toArray := hs 31 (by decide)
        have h91 : a.eval (.tmp 91) = .slice A len' cap := hs 32 (by decide)
        have h89 : a.eval (.tmp 89) = .bool true := hs 30 (by decide)
        refine flowY rfl rfl h89 ?_
        exact val_call 17 _ _ rfl (by kernel_rfl) [.agg (secV k).toArray, .slice A len' cap] (by show [a.eval (.tmp 90), a.eval (.tmp 91)] = _; rw [h90, h91]) ((made_any k A len' cap B W (Hg.out.below (ext_below hE)) (Hb.out.below (ext_below hE)) (by omega)).mono (by rintro e W' ⟨⟨C, n, c, D, m, d, rfl, _, _, hC, hD⟩, hb⟩; exact ⟨_, rfl, hb, ⟨C, n, c, D, m, d, rfl, hC, hD⟩, trivial⟩))
      · intro a W hE hb hs
        have h8 : a.eval (.tmp 8) = .pointer (some ⟨X8, 0, none⟩) := hb 8 (by decide)
        have h89 : a.eval (.tmp 89) = .bool true := hs 30 (by decide)
        refine flowY rfl rfl h89 ?_
        exact val_load_row 28 _ rfl X8 0 h8 (secV k) d28 (Blk.range (HBX8.out.below (ext_below hE) HBX8.out.lt)) hd28 hrow28 (by rw [secV_len]; kernel_rfl) ⟨rfl, trivial⟩
      · intro a W hE hb hs
        have h9 : a.eval (.tmp 9) = .slice A len' cap := hb 9 (by decide)
        have h89 : a.eval (.tmp 89) = .bool true := hs 30 (by decide)
        refine flowY rfl rfl h89 ?_
        exact val_move _ rfl _ h9 ⟨rfl, trivial⟩
      · intro a W hE hb hs
        have h93 : a.eval (.tmp 93) = .agg (secV k).toArray := hs 34 (by decide)
        have h94 : a.eval (.tmp 94) = .slice A len' cap := hs 35 (by decide)
        have h89 : a.eval (.tmp 89) = .bool true := hs 30 (by decide)
        refine flowY rfl rfl h89 ?_
        exact val_call 17 _ _ rfl (by kernel_rfl) [.agg (secV k).toArray, .slice A len' cap] (by show [a.eval (.tmp 93), a.eval (.tmp 94)] = _; rw [h93, h94]) ((made_any k A len' cap B W (Hg.out.below (ext_below hE)) (Hb.out.below (ext_below hE)) (by omega)).mono (by rintro e W' ⟨⟨C, n, c, D, m, d, rfl, _, _, hC, hD⟩, hb⟩; exact ⟨_, rfl, hb, ⟨C, n, c, D, m, d, rfl, hC, hD⟩, trivial⟩))
      · intro a W hE hb hs
        have h92 : ∃ (C : Option Addr) (n c : Nat) (D : Option Addr) (m d : Nat), (a.eval (.tmp 92)) = .agg (sgnV (signS k B).1.i C n c D m d (signS k B).2.1 (signS k B).2.2).toArray ∧ TRd W 26 32 C n ((signS k B).1.ch.flatMap sumC) ∧ TRd W 26 32 D m ((signS k B).1.pa.flatMap sumC) := hs 33 (by decide)
        have h95 : ∃ (C : Option Addr) (n c : Nat) (D : Option Addr) (m d : Nat), (a.eval (.tmp 95)) = .agg (sgnV (signS k B).1.i C n c D m d (signS k B).2.1 (signS k B).2.2).toArray ∧ TRd W 26 32 C n ((signS k B).1.ch.flatMap sumC) ∧ TRd W 26 32 D m ((signS k B).1.pa.flatMap sumC) := hs 36 (by decide)
        have h89 : a.eval (.tmp 89) = .bool true := hs 30 (by decide)
        refine flowY rfl rfl h89 ?_
        obtain ⟨C, n, c, D, m, d, e92, hC, hD⟩ := h92
        obtain ⟨C', n', c', D', m', d', e95, hC', hD'⟩ := h95
        have hln := sign_lens k B HV.out
        have q1 := hC.1.lenf sumC_len (by omega)
        have q2 := hD.1.lenf sumC_len (by omega)
        have q3 := hC'.1.lenf sumC_len (by omega)
        have q4 := hD'.1.lenf sumC_len (by omega)
        exact val_call 16 _ _ rfl (by kernel_rfl) [.agg (sgnV (signS k B).1.i C n c D m d (signS k B).2.1 (signS k B).2.2).toArray, .agg (sgnV (signS k B).1.i C' n' c' D' m' d' (signS k B).2.1 (signS k B).2.2).toArray] (by show [a.eval (.tmp 92), a.eval (.tmp 95)] = _; rw [e92, e95]) ((same_any _ _ C D C' D' n c m d n' c' m' d' _ _ _ _ _ _ _ _ W hC.1 hD.1 hC'.1 hD'.1 (by omega) (by omega) (by omega) (by omega)).mono (by rintro e W' ⟨rfl, hb⟩; rw [decide_eq_true ⟨⟨rfl, rfl, rfl⟩, rfl, rfl⟩]; exact ⟨_, rfl, hb, rfl, trivial⟩))
      · intro a W hE hb hs
        have h89 : a.eval (.tmp 89) = .bool true := hs 30 (by decide)
        have h96 : a.eval (.tmp 96) = .bool true := hs 37 (by decide)
        refine flow0 rfl ?_
        exact val_pick _ _ _ rfl true h89 _ (by rw [if_pos rfl]; exact h96) ⟨rfl, trivial⟩
      · intro a W hE hb hs
        have h97 : a.eval (.tmp 97) = .bool true := hs 38 (by decide)
        refine flow0 rfl ?_
        exact val_assign _ rfl _ h97 ⟨rfl, trivial⟩
    intro f W hb hT hp hd
    have e6 : f 6 = .bool true := hT 39 (by decide)
    simp only [putV, List.foldl_cons, List.foldl_nil, Act.put, List.setIfInBounds_toArray, List.set_cons_succ, List.set_cons_zero, Exit.then]
    rw [e6]
    have HE := Lib.hid (HB.out.trans (hb.mono HB.out.size))
    clear hb hT hp hd e6
    go_wp2_with fail
    go_ret
    exact ⟨rfl, HE.out⟩
  have hbad : validS ⟨k.s, x2, x3⟩ = false := by simpa using hvo
  rw [hbad]
  clear hvo
  go_upto_region 11 with fail
  obtain ⟨K, hK⟩ : ∃ K : Sc, K = ⟨k.s, x2, x3⟩ := ⟨_, rfl⟩
  rw [← hK] at HBX15 hbad
  clear hK
  have hp : pubS K = (z32, 161) := pub_bad hbad
  have Hk := Lib.hid (Blk.range HBX15.out)
  go_upto_region 12 with (refine wpList_load_mid rfl 28 (.tmp 15) rfl X15 0 rfl (secV K) d28 Hk.out hd28 hrow28 (by rw [secV_len]; kernel_rfl) ?_)
  refine (Public_any K v12 Hg.out).mono ?_
  rintro e v13 ⟨rfl, hb_⟩
  replace HB := Lib.hid (HB.out.trans (hb_.mono HB.out.size))
  replace Hg := Lib.hid (Hg.out.below hb_)
  replace HBX8 := Lib.hid (HBX8.out.below hb_ HBX8.out.lt)
  replace Hb := Lib.hid (Hb.out.below hb_)
  replace HBX10 := Lib.hid (HBX10.out.below hb_ HBX10.out.lt)
  replace HBX11 := Lib.hid (HBX11.out.below hb_ HBX11.out.lt)
  replace HBX13 := Lib.hid (HBX13.out.below hb_ HBX13.out.lt)
  replace HBX15 := Lib.hid (HBX15.out.below hb_ HBX15.out.lt)
  clear hb_
  rw [hp]
  clear Hk hp
  obtain ⟨v14a, hv14a⟩ : ∃ v, v = (v13.alloc (.cells zero32 26)) := ⟨_, rfl⟩
  obtain ⟨X16, hX16⟩ : ∃ v, v = v13.heap.size := ⟨_, rfl⟩
  have hNX16 : Blk (v13.alloc (.cells zero32 26)) X16 26 zero32 := by
    have := Blk.new v13 26 zero32
    skip
    rw [hX16]; exact this
  rw [← hv14a] at hNX16
  have hbA : Below v13.heap.size v13 v14a := by
    rw [hv14a]; exact (Below.refl _ _).alloc (by simp) _
  have HNX16 := Lib.hid hNX16
  have hkX16 := (KeptIn.refl (fun b => b ≠ X16) v14a).setRow (g := X16) (fun h => h rfl) (sumC z32).toArray
  replace hNX16 : Blk (v14a.setRow X16 (sumC z32).toArray) X16 26 (sumC z32).toArray := setRow_heap _ _ _ _ _ _ HNX16.out
  obtain ⟨v14, hv14⟩ : ∃ v, v = (v14a.setRow X16 (sumC z32).toArray) := ⟨_, rfl⟩
  have hbB : Below v13.heap.size v13 v14 := by rw [hv14]; exact (Below.setRow hbA (show v13.heap.size ≤ X16 by omega) _)
  rw [← hv14] at hNX16
  have HBX16 := Lib.hid hNX16
  have Hv14a := Lib.hid hv14a
  have Hv14 := Lib.hid hv14
  have HEX16 := Lib.hid hX16
  clear hNX16 hkX16 hv14a hv14 hbA
  have hlX16 : w.heap.size ≤ X16 := by have := HB.out.size; omega
  have hoX8X16 : X8 < X16 := by have := HBX8.out.lt; omega
  have hoX10X16 : X10 < X16 := by have := HBX10.out.lt; omega
  have hoX11X16 : X11 < X16 := by have := HBX11.out.lt; omega
  have hoX13X16 : X13 < X16 := by have := HBX13.out.lt; omega
  have hoX15X16 : X15 < X16 := by have := HBX15.out.lt; omega
  clear hX16
  go_upto_region 12 with (first | (refine wpList_alloc0 rfl 26 rfl zero32 _ i32 hi32 hz32 rfl ?_; simp only [Act.put, List.setIfInBounds_toArray, List.set_cons_succ, List.set_cons_zero]; try simp only [World.size_alloc]) | (rw [← Hv14a.out, ← HEX16.out]; refine wpList_store_row rfl 26 (.tmp 16) (.tmp 57) rfl X16 (sumC z32).toArray rfl rfl 26 _ HNX16.out (size32 _ (sum_size _)) ((zero32_size).trans (sum_size _).symm) (all_oneCell_toArray (oneB _)) ?_; rw [← Hv14.out]))
  replace HB := Lib.hid (HB.out.trans (hbB.mono HB.out.size))
  replace Hg := Lib.hid (Hg.out.below hbB)
  replace HBX8 := Lib.hid (HBX8.out.below hbB HBX8.out.lt)
  replace Hb := Lib.hid (Hb.out.below hbB)
  replace HBX10 := Lib.hid (HBX10.out.below hbB HBX10.out.lt)
  replace HBX11 := Lib.hid (HBX11.out.below hbB HBX11.out.lt)
  replace HBX13 := Lib.hid (HBX13.out.below hbB HBX13.out.lt)
  replace HBX15 := Lib.hid (HBX15.out.below hbB HBX15.out.lt)
  clear hbB
  clear HNX16 HEX16 Hv14a Hv14
  have HK := Lib.hid (sign_bad B hbad)
  clear hbad
  have hz1 := run_eql_sum P P
  rw [show decide (P = P) = true from decide_eq_true rfl] at hz1
  have hz2 := run_eql_sum z32 z32
  rw [show decide (z32 = z32) = true from decide_eq_true rfl] at hz2
  refine wp_region_flowF [59, 60, 61, 62, 63, 64, 65, 66, 67, 68, 69, 70, 71, 72, 73, 74, 75, 76, 77, 78, 79, 80, 81, 82, 83, 84, 85, 86, 87, 88, 89, 90, 91, 92, 93, 94, 95, 96, 97, 6] [(Spec.is (.bool true), false), (Spec.is (.bool true), false), (Spec.is (.int .i64 0), false), (Spec.is (.bool true), false), (Spec.is (.bool true), false), (Spec.is (.bool true), false), (Spec.is (.int .i64 0), false), (Spec.is (.bool true), false), (Spec.is (.bool true), false), (Spec.is (.bool true), false), (Spec.is (.agg (sumC P).toArray), false), (Spec.is (.agg (sumC P).toArray), false), (Spec.is (.bool true), false), (Spec.is (.bool true), false), (Spec.is (.bool true), false), (Spec.is (.int .i64 161), false), (Spec.is (.bool true), false), (Spec.is (.bool true), false), (Spec.is (.bool true), false), (Spec.is (.agg (sumC z32).toArray), false), (Spec.is (.agg (sumC z32).toArray), false), (Spec.is (.bool true), false), (Spec.is (.bool true), false), (Spec.is (.bool true), false), (Spec.is (.agg (secV K).toArray), false), (Spec.is (.slice A len' cap), false), (spSgn (signS K B), false), (Spec.is (.int .i64 161), false), (Spec.is (.bool true), false), (Spec.is (.bool true), false), (Spec.is (.bool true), false), (Spec.is (.agg (secV k).toArray), false), (Spec.is (.slice A len' cap), false), (spSgn (signS k B), false), (Spec.is (.agg (secV k).toArray), false), (Spec.is (.slice A len' cap), false), (spSgn (signS k B), false), (Spec.is (.bool true), false), (Spec.is (.bool true), false), (Spec.is (.bool true), false)] 98 (by kernel_rfl) rfl (by decide) rfl (by decide) (by kernel_rfl) ?_ ?_
  · refine ⟨?_, ?_, ?_, ?_, ?_, ?_, ?_, ?_, ?_, ?_, ?_, ?_, ?_, ?_, ?_, ?_, ?_, ?_, ?_, ?_, ?_, ?_, ?_, ?_, ?_, ?_, ?_, ?_, ?_, ?_, ?_, ?_, ?_, ?_, ?_, ?_, ?_, ?_, ?_, ?_, trivial⟩
    · intro a W hE hb hs
      have h7 : a.eval (.tmp 7) = .bool true := hb 7 (by decide)
      refine flow0 rfl ?_
      exact val_move _ rfl _ h7 ⟨rfl, trivial⟩
    · intro a W hE hb hs
      have h59 : a.eval (.tmp 59) = .bool true := hs 0 (by decide)
      refine flow0 rfl ?_
      exact val_move _ rfl _ h59 ⟨rfl, trivial⟩
    · intro a W hE hb hs
      have h12 : a.eval (.tmp 12) = .int .i64 0 := hb 12 (by decide)
      have h60 : a.eval (.tmp 60) = .bool true := hs 1 (by decide)
      refine flowY rfl rfl h60 ?_
      exact val_move _ rfl _ h12 ⟨rfl, trivial⟩
    · intro a W hE hb hs
      have h61 : a.eval (.tmp 61) = .int .i64 0 := hs 2 (by decide)
      have h60 : a.eval (.tmp 60) = .bool true := hs 1 (by decide)
      refine flowY rfl rfl h60 ?_
      intro K hK
      unfold Oper.wp execOp
      simp only [h61, BigFrame.eval_const]
      simp [go_sem]
      exact hK _ _ ⟨Below.refl _ _, rfl, trivial⟩
    · intro a W hE hb hs
      have h60 : a.eval (.tmp 60) = .bool true := hs 1 (by decide)
      have h62 : a.eval (.tmp 62) = .bool true := hs 3 (by decide)
      refine flow0 rfl ?_
      exact val_pick _ _ _ rfl true h60 _ (by rw [if_pos rfl]; exact h62) ⟨rfl, trivial⟩
    · intro a W hE hb hs
      have h63 : a.eval (.tmp 63) = .bool true := hs 4 (by decide)
      refine flow0 rfl ?_
      exact val_move _ rfl _ h63 ⟨rfl, trivial⟩
    · intro a W hE hb hs
      have h14 : a.eval (.tmp 14) = .int .i64 0 := hb 14 (by decide)
      have h64 : a.eval (.tmp 64) = .bool true := hs 5 (by decide)
      refine flowY rfl rfl h64 ?_
      exact val_move _ rfl _ h14 ⟨rfl, trivial⟩
    · intro a W hE hb hs
      have h65 : a.eval (.tmp 65) = .int .i64 0 := hs 6 (by decide)
      have h64 : a.eval (.tmp 64) = .bool true := hs 5 (by decide)
      refine flowY rfl rfl h64 ?_
      intro K hK
      unfold Oper.wp execOp
      simp only [h65, BigFrame.eval_const]
      simp [go_sem]
      exact hK _ _ ⟨Below.refl _ _, rfl, trivial⟩
    · intro a W hE hb hs
      have h64 : a.eval (.tmp 64) = .bool true := hs 5 (by decide)
      have h66 : a.eval (.tmp 66) = .bool true := hs 7 (by decide)
      refine flow0 rfl ?_
      exact val_pick _ _ _ rfl true h64 _ (by rw [if_pos rfl]; exact h66) ⟨rfl, trivial⟩
    · intro a W hE hb hs
      have h67 : a.eval (.tmp 67) = .bool true := hs 8 (by decide)
      refine flow0 rfl ?_
      exact val_move _ rfl _ h67 ⟨rfl, trivial⟩
    · intro a W hE hb hs
      have h11 : a.eval (.tmp 11) = .pointer (some ⟨X11, 0, none⟩) := hb 11 (by decide)
      have h68 : a.eval (.tmp 68) = .bool true := hs 9 (by decide)
      refine flowY rfl rfl h68 ?_
      exact val_load_row 26 _ rfl X11 0 h11 (sumC P) _ (Blk.range (HBX11.out.below (ext_below hE) HBX11.out.lt)) und32 rfl (by rw [sumC_len]; kernel_rfl) ⟨rfl, trivial⟩
    · intro a W hE hb hs
      have h13 : a.eval (.tmp 13) = .pointer (some ⟨X13, 0, none⟩) := hb 13 (by decide)
      have h68 : a.eval (.tmp 68) = .bool true := hs 9 (by decide)
      refine flowY rfl rfl h68 ?_
      exact val_load_row 26 _ rfl X13 0 h13 (sumC P) _ (Blk.range (HBX13.out.below (ext_below hE) HBX13.out.lt)) und32 rfl (by rw [sumC_len]; kernel_rfl) ⟨rfl, trivial⟩
    · intro a W hE hb hs
      have h69 : a.eval (.tmp 69) = .agg (sumC P).toArray := hs 10 (by decide)
      have h70 : a.eval (.tmp 70) = .agg (sumC P).toArray := hs 11 (by decide)
      have h68 : a.eval (.tmp 68) = .bool true := hs 9 (by decide)
      refine flowY rfl rfl h68 ?_
      intro K hK
      unfold Oper.wp execOp
      simp only [h69, h70]
      simp [go_sem, hz1]
      exact hK _ _ ⟨Below.refl _ _, rfl, trivial⟩
    · intro a W hE hb hs
      have h68 : a.eval (.tmp 68) = .bool true := hs 9 (by decide)
      have h71 : a.eval (.tmp 71) = .bool true := hs 12 (by decide)
      refine flow0 rfl ?_
      exact val_pick _ _ _ rfl true h68 _ (by rw [if_pos rfl]; exact h71) ⟨rfl, trivial⟩
    · intro a W hE hb hs
      have h72 : a.eval (.tmp 72) = .bool true := hs 13 (by decide)
      refine flow0 rfl ?_
      exact val_move _ rfl _ h72 ⟨rfl, trivial⟩
    · intro a W hE hb hs
      have h17 : a.eval (.tmp 17) = .int .i64 161 := hb 17 (by decide)
      have h73 : a.eval (.tmp 73) = .bool true := hs 14 (by decide)
      refine flowY rfl rfl h73 ?_
      exact val_move _ rfl _ h17 ⟨rfl, trivial⟩
    · intro a W hE hb hs
      have h74 : a.eval (.tmp 74) = .int .i64 161 := hs 15 (by decide)
      have h73 : a.eval (.tmp 73) = .bool true := hs 14 (by decide)
      refine flowY rfl rfl h73 ?_
      intro K hK
      unfold Oper.wp execOp
      simp only [h74, BigFrame.eval_const]
      simp [go_sem]
      exact hK _ _ ⟨Below.refl _ _, rfl, trivial⟩
    · intro a W hE hb hs
      have h73 : a.eval (.tmp 73) = .bool true := hs 14 (by decide)
      have h75 : a.eval (.tmp 75) = .bool true := hs 16 (by decide)
      refine flow0 rfl ?_
      exact val_pick _ _ _ rfl true h73 _ (by rw [if_pos rfl]; exact h75) ⟨rfl, trivial⟩
    · intro a W hE hb hs
      have h76 : a.eval (.tmp 76) = .bool true := hs 17 (by decide)
      refine flow0 rfl ?_
      exact val_move _ rfl _ h76 ⟨rfl, trivial⟩
    · intro a W hE hb hs
      have h16 : a.eval (.tmp 16) = .pointer (some ⟨X16, 0, none⟩) := hb 16 (by decide)
      have h77 : a.eval (.tmp 77) = .bool true := hs 18 (by decide)
      refine flowY rfl rfl h77 ?_
      exact val_load_row 26 _ rfl X16 0 h16 (sumC z32) _ (Blk.range (HBX16.out.below (ext_below hE) HBX16.out.lt)) und32 rfl (by rw [sumC_len]; kernel_rfl) ⟨rfl, trivial⟩
    · intro a W hE hb hs
      have h77 : a.eval (.tmp 77) = .bool true := hs 18 (by decide)
      refine flowY rfl rfl h77 ?_
      exact val_build 26 _ rfl [] (by show [] = _; rw []) _ (built32z) ⟨rfl, trivial⟩
    · intro a W hE hb hs
      have h78 : a.eval (.tmp 78) = .agg (sumC z32).toArray := hs 19 (by decide)
      have h79 : a.eval (.tmp 79) = .agg (sumC z32).toArray := hs 20 (by decide)
      have h77 : a.eval (.tmp 77) = .bool true := hs 18 (by decide)
      refine flowY rfl rfl h77 ?_
      intro K hK
      unfold Oper.wp execOp
      simp only [h78, h79]
      simp [go_sem, hz2]
      exact hK _ _ ⟨Below.refl _ _, rfl, trivial⟩
    · intro a W hE hb hs
      have h77 : a.eval (.tmp 77) = .bool true := hs 18 (by decide)
      have h80 : a.eval (.tmp 80) = .bool true := hs 21 (by decide)
      refine flow0 rfl ?_
      exact val_pick _ _ _ rfl true h77 _ (by rw [if_pos rfl]; exact h80) ⟨rfl, trivial⟩
    · intro a W hE hb hs
      have h81 : a.eval (.tmp 81) = .bool true := hs 22 (by decide)
      refine flow0 rfl ?_
      exact val_move _ rfl _ h81 ⟨rfl, trivial⟩
    · intro a W hE hb hs
      have h15 : a.eval (.tmp 15) = .pointer (some ⟨X15, 0, none⟩) := hb 15 (by decide)
      have h82 : a.eval (.tmp 82) = .bool true := hs 23 (by decide)
      refine flowY rfl rfl h82 ?_
      exact val_load_row 28 _ rfl X15 0 h15 (secV K) d28 (Blk.range (HBX15.out.below (ext_below hE) HBX15.out.lt)) hd28 hrow28 (by rw [secV_len]; kernel_rfl) ⟨rfl, trivial⟩
    · intro a W hE hb hs
      have h9 : a.eval (.tmp 9) = .slice A len' cap := hb 9 (by decide)
      have h82 : a.eval (.tmp 82) = .bool true := hs 23 (by decide)
      refine flowY rfl rfl h82 ?_
      exact val_move _ rfl _ h9 ⟨rfl, trivial⟩
    · intro a W hE hb hs
      have h83 : a.eval (.tmp 83) = .agg (secV K).toArray := hs 24 (by decide)
      have h84 : a.eval (.tmp 84) = .slice A len' cap := hs 25 (by decide)
      have h82 : a.eval (.tmp 82) = .bool true := hs 23 (by decide)
      refine flowY rfl rfl h82 ?_
      exact val_call 17 _ _ rfl (by kernel_rfl) [.agg (secV K).toArray, .slice A len' cap] (by show [a.eval (.tmp 83), a.eval (.tmp 84)] = _; rw [h83, h84]) ((made_any K A len' cap B W (Hg.out.below (ext_below hE)) (Hb.out.below (ext_below hE)) (by omega)).mono (by rintro e W' ⟨⟨C, n, c, D, m, d, rfl, _, _, hC, hD⟩, hb⟩; exact ⟨_, rfl, hb, ⟨C, n, c, D, m, d, rfl, hC, hD⟩, trivial⟩))
    · intro a W hE hb hs
      have h85 : ∃ (C : Option Addr) (n c : Nat) (D : Option Addr) (m d : Nat), (a.eval (.tmp 85)) = .agg (sgnV (signS K B).1.i C n c D m d (signS K B).2.1 (signS K B).2.2).toArray ∧ TRd W 26 32 C n ((signS K B).1.ch.flatMap sumC) ∧ TRd W 26 32 D m ((signS K B).1.pa.flatMap sumC) := hs 26 (by decide)
      have h82 : a.eval (.tmp 82) = .bool true := hs 23 (by decide)
      refine flowY rfl rfl h82 ?_
      obtain ⟨C, n, c, D, m, d, e85, _, _⟩ := h85
      rw [HK.out] at e85
      exact val_field 39 _ 2 rfl _ _ e85 (field39_2 _ _ _ _ _ _ _ _ _ _) ⟨rfl, trivial⟩
    · intro a W hE hb hs
      have h86 : a.eval (.tmp 86) = .int .i64 161 := hs 27 (by decide)
      have h82 : a.eval (.tmp 82) = .bool true := hs 23 (by decide)
      refine flowY rfl rfl h82 ?_
      intro K hK
      unfold Oper.wp execOp
      simp only [h86, BigFrame.eval_const]
      simp [go_sem]
      exact hK _ _ ⟨Below.refl _ _, rfl, trivial⟩
    · intro a W hE hb hs
      have h82 : a.eval (.tmp 82) = .bool true := hs 23 (by decide)
      have h87 : a.eval (.tmp 87) = .bool true := hs 28 (by decide)
      refine flow0 rfl ?_
      exact val_pick _ _ _ rfl true h82 _ (by rw [if_pos rfl]; exact h87) ⟨rfl, trivial⟩
    · intro a W hE hb hs
      have h88 : a.eval (.tmp 88) = .bool true := hs 29 (by decide)
      refine flow0 rfl ?_
      exact val_move _ rfl _ h88 ⟨rfl, trivial⟩
    · intro a W hE hb hs
      have h8 : a.eval (.tmp 8) = .pointer (some ⟨X8, 0, none⟩) := hb 8 (by decide)
      have h89 : a.eval (.tmp 89) = .bool true := hs 30 (by decide)
      refine flowY rfl rfl h89 ?_
      exact val_load_row 28 _ rfl X8 0 h8 (secV k) d28 (Blk.range (HBX8.out.below (ext_below hE) HBX8.out.lt)) hd28 hrow28 (by rw [secV_len]; kernel_rfl) ⟨rfl, trivial⟩
    · intro a W hE hb hs
      have h9 : a.eval (.tmp 9) = .slice A len' cap := hb 9 (by decide)
      have h89 : a.eval (.tmp 89) = .bool true := hs 30 (by decide)
      refine flowY rfl rfl h89 ?_
      exact val_move _ rfl _ h9 ⟨rfl, trivial⟩
    · intro a W hE hb hs
      have h90 : a.eval (.tmp 90) = .agg (secV k).toArray := hs 31 (by decide)
      have h91 : a.eval (.tmp 91) = .slice A len' cap := hs 32 (by decide)
      have h89 : a.eval (.tmp 89) = .bool true := hs 30 (by decide)
      refine flowY rfl rfl h89 ?_
      exact val_call 17 _ _ rfl (by kernel_rfl) [.agg (secV k).toArray, .slice A len' cap] (by show [a.eval (.tmp 90), a.eval (.tmp 91)] = _; rw [h90, h91]) ((made_any k A len' cap B W (Hg.out.below (ext_below hE)) (Hb.out.below (ext_below hE)) (by omega)).mono (by rintro e W' ⟨⟨C, n, c, D, m, d, rfl, _, _, hC, hD⟩, hb⟩; exact ⟨_, rfl, hb, ⟨C, n, c, D, m, d, rfl, hC, hD⟩, trivial⟩))
    · intro a W hE hb hs
      have h8 : a.eval (.tmp 8) = .pointer (some ⟨X8, 0, none⟩) := hb 8 (by decide)
      have h89 : a.eval (.tmp 89) = .bool true := hs 30 (by decide)
      refine flowY rfl rfl h89 ?_
      exact val_load_row 28 _ rfl X8 0 h8 (secV k) d28 (Blk.range (HBX8.out.below (ext_below hE) HBX8.out.lt)) hd28 hrow28 (by rw [secV_len]; kernel_rfl) ⟨rfl, trivial⟩
    · intro a W hE hb hs
      have h9 : a.eval (.tmp 9) = .slice A len' cap := hb 9 (by decide)
      have h89 : a.eval (.tmp 89) = .bool true := hs 30 (by decide)
      refine flowY rfl rfl h89 ?_
      exact val_move _ rfl _ h9 ⟨rfl, trivial⟩
    · intro a W hE hb hs
      have h93 : a.eval (.tmp 93) = .agg (secV k).toArray := hs 34 (by decide)
      have h94 : a.eval (.tmp 94) = .slice A len' cap := hs 35 (by decide)
      have h89 : a.eval (.tmp 89) = .bool true := hs 30 (by decide)
      refine flowY rfl rfl h89 ?_
      exact val_call 17 _ _ rfl (by kernel_rfl) [.agg (secV k).toArray, .slice A len' cap] (by show [a.eval (.tmp 93), a.eval (.tmp 94)] = _; rw [h93, h94]) ((made_any k A len' cap B W (Hg.out.below (ext_below hE)) (Hb.out.below (ext_below hE)) (by omega)).mono (by rintro e W' ⟨⟨C, n, c, D, m, d, rfl, _, _, hC, hD⟩, hb⟩; exact ⟨_, rfl, hb, ⟨C, n, c, D, m, d, rfl, hC, hD⟩, trivial⟩))
    · intro a W hE hb hs
      have h92 : ∃ (C : Option Addr) (n c : Nat) (D : Option Addr) (m d : Nat), (a.eval (.tmp 92)) = .agg (sgnV (signS k B).1.i C n c D m d (signS k B).2.1 (signS k B).2.2).toArray ∧ TRd W 26 32 C n ((signS k B).1.ch.flatMap sumC) ∧ TRd W 26 32 D m ((signS k B).1.pa.flatMap sumC) := hs 33 (by decide)
      have h95 : ∃ (C : Option Addr) (n c : Nat) (D : Option Addr) (m d : Nat), (a.eval (.tmp 95)) = .agg (sgnV (signS k B).1.i C n c D m d (signS k B).2.1 (signS k B).2.2).toArray ∧ TRd W 26 32 C n ((signS k B).1.ch.flatMap sumC) ∧ TRd W 26 32 D m ((signS k B).1.pa.flatMap sumC) := hs 36 (by decide)
      have h89 : a.eval (.tmp 89) = .bool true := hs 30 (by decide)
      refine flowY rfl rfl h89 ?_
      obtain ⟨C, n, c, D, m, d, e92, hC, hD⟩ := h92
      obtain ⟨C', n', c', D', m', d', e95, hC', hD'⟩ := h95
      have hln := sign_lens k B HV.out
      have q1 := hC.1.lenf sumC_len (by omega)
      have q2 := hD.1.lenf sumC_len (by omega)
      have q3 := hC'.1.lenf sumC_len (by omega)
      have q4 := hD'.1.lenf sumC_len (by omega)
      exact val_call 16 _ _ rfl (by kernel_rfl) [.agg (sgnV (signS k B).1.i C n c D m d (signS k B).2.1 (signS k B).2.2).toArray, .agg (sgnV (signS k B).1.i C' n' c' D' m' d' (signS k B).2.1 (signS k B).2.2).toArray] (by show [a.eval (.tmp 92), a.eval (.tmp 95)] = _; rw [e92, e95]) ((same_any _ _ C D C' D' n c m d n' c' m' d' _ _ _ _ _ _ _ _ W hC.1 hD.1 hC'.1 hD'.1 (by omega) (by omega) (by omega) (by omega)).mono (by rintro e W' ⟨rfl, hb⟩; rw [decide_eq_true ⟨⟨rfl, rfl, rfl⟩, rfl, rfl⟩]; exact ⟨_, rfl, hb, rfl, trivial⟩))
    · intro a W hE hb hs
      have h89 : a.eval (.tmp 89) = .bool true := hs 30 (by decide)
      have h96 : a.eval (.tmp 96) = .bool true := hs 37 (by decide)
      refine flow0 rfl ?_
      exact val_pick _ _ _ rfl true h89 _ (by rw [if_pos rfl]; exact h96) ⟨rfl, trivial⟩
    · intro a W hE hb hs
      have h97 : a.eval (.tmp 97) = .bool true := hs 38 (by decide)
      refine flow0 rfl ?_
      exact val_assign _ rfl _ h97 ⟨rfl, trivial⟩
  intro f W hb hT hp hd
  have e6 : f 6 = .bool true := hT 39 (by decide)
  simp only [putV, List.foldl_cons, List.foldl_nil, Act.put, List.setIfInBounds_toArray, List.set_cons_succ, List.set_cons_zero, Exit.then]
  rw [e6]
  have HE := Lib.hid (HB.out.trans (hb.mono HB.out.size))
  clear hb hT hp hd e6
  go_wp2_with fail
  go_ret
  exact ⟨rfl, HE.out⟩
end Go.Proofs.YtfdhiilhjfbehaaDoor
