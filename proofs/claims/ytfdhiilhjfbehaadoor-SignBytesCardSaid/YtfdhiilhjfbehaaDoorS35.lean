/- SignBytes: a signature is read from its bytes, and from no others. -/
import Derived.Test.YtfdhiilhjfbehaaDoorS34
namespace Go.Proofs.YtfdhiilhjfbehaaDoor
open Go.RowKit Go.Sort

def xB (bs : List UInt8) (i : Nat) : Sum32 := ⟨b8 (i : Int) :: bs.getD (i % bs.length) 0 :: List.replicate 30 0, rfl⟩
theorem xB_nil {bs : List UInt8} (h : bs.length = 0) (i : Nat) : xB bs i = shaB (b8 (i : Int)) := by
  obtain rfl := List.eq_nil_of_length_eq_zero h
  rfl
theorem xB_set {bs : List UInt8} {i : Nat} {b : UInt8} (hb : bs[i % bs.length]? = some b) : (sumC (shaB (b8 (i : Int)))).toArray.setIfInBounds 1 (.int .u8 (b.toNat : Int)) = (sumC (xB bs i)).toArray := by
  have h : bs.getD (i % bs.length) 0 = b := by rw [List.getD_eq_getElem?_getD, hb]; rfl
  rw [List.setIfInBounds_toArray]
  congr 1
  show ((b8 (i : Int) :: List.replicate 31 0).map byteV).set 1 (byteV b) = (b8 (i : Int) :: bs.getD (i % bs.length) 0 :: List.replicate 30 0).map byteV
  rw [h]
  rfl
theorem trd_set1 {W : World} {e sz n b o p : Nat} {xs : List Value} {v : Value} (h : TRd W e sz (some ⟨b, o, none⟩) n xs) (hn : 0 < n) (hp : p < xs.length) : TRd (W.setCell ⟨b, o + p, none⟩ v) e sz (some ⟨b, o, none⟩) n (xs.set p v) := by
  obtain ⟨cur, hB⟩ := h.2 hn b o rfl
  have hB' := heap_setCell_same W b (o + p) cur e v hB
  obtain ⟨b', o', e', hc⟩ := h.1.2.2 hn
  cases e'
  refine ⟨⟨by rw [List.length_set]; exact h.1.1, h.1.2.1, fun _ => ⟨b, o, rfl, fun j u hu => ?_⟩⟩, fun _ b2 o2 e2 => by cases e2; exact ⟨_, hB'⟩⟩
  have hB'' : Blk (W.setCell ⟨b, o + p, none⟩ v) b e (cur.setIfInBounds (o + p) v) := hB'
  rw [hB''.cell, Array.getElem?_setIfInBounds]
  rw [List.getElem?_set] at hu
  by_cases hj : p = j
  · subst hj
    rw [if_pos rfl, if_pos hp] at hu
    have hc1 := hc p xs[p] (List.getElem?_eq_getElem hp)
    rw [hB.cell] at hc1
    rw [if_pos rfl, if_pos (Array.getElem?_eq_some_iff.1 hc1).1]
    exact hu
  · rw [if_neg hj] at hu
    rw [if_neg (by omega), ← hB.cell]
    exact hc j u hu

set_option maxRecDepth 100000 in
set_option maxHeartbeats 8000000 in
theorem SignBytes_any (As : Option Addr) (ls cs : Nat) (bs : List UInt8) (b0 b1 b2 : UInt8) (A : Option Addr) (len cap : Nat) (bs2 : List UInt8) (w : World) (hg : Globs w) (hrs : Rd w 1 As ls (bs.map byteV)) (hr : Rd w 1 A len (bs2.map byteV)) (hlc : len ≤ cap) :
    Calls Tryd.prog 9 #[.slice As ls cs, .agg #[byteV b0, byteV b1, byteV b2], .slice A len cap] w fun e w' => e = .returned (.bool true) ∧ Below w.heap.size w w' := by
  obtain ⟨i32, hi32, hz32, hs32, hy32⟩ := info_parts info32
  obtain ⟨i37, hi37, hz37, _, _⟩ := info_parts info37
  obtain ⟨i28, hi28, hz28, _, _⟩ := info_parts info28
  obtain ⟨i39, hi39, hz39, _, _⟩ := info_parts info39
  obtain ⟨d28, hd28, hrow28⟩ := und28
  obtain ⟨d37, hd37, hrow37⟩ := und37
  obtain ⟨d39, hd39, hrow39⟩ := und39
  obtain ⟨i0, hi0, hz0, hz1, hz2⟩ := info_parts info5
  have Hs00 := Lib.hid hrs
  have Hsl := Lib.hid hrs.len1
  have hb0l := b0.toNat_lt
  unfold byteV
  go_enter Tryd.func9, Tryd.ntmps9
  go_upto_region 1 with fail
  obtain ⟨w1, hw1⟩ : ∃ v, v = w.alloc (.cells #[.int .u8 (b0.toNat : Int), .int .u8 (b1.toNat : Int), .int .u8 (b2.toNat : Int)] 43) := ⟨_, rfl⟩
  have hB1 : Below w.heap.size w w1 := by rw [hw1]; exact (Below.refl _ _).alloc (Nat.le_refl _) _
  have hX1 : Blk w1 w.heap.size 43 #[.int .u8 (b0.toNat : Int), .int .u8 (b1.toNat : Int), .int .u8 (b2.toNat : Int)] := by rw [hw1]; exact Blk.new _ _ _
  rw [← hw1]
  clear hw1
  have HB := Lib.hid hB1
  have HW := Lib.hid hX1
  have Hg := Lib.hid (hg.below hB1)
  have Hg0 := Lib.hid hg
  have Hr0 := Lib.hid hr
  have Hs := Lib.hid (hrs.below hB1)
  have Hr := Lib.hid (hr.below hB1)
  clear hB1 hX1 hg hrs hr
  go_upto_region 2 with fail
  refine (sanity_any w1 Hg.out).mono ?_
  rintro e v1 ⟨rfl, hb_⟩
  replace HB := Lib.hid (HB.out.trans (hb_.mono HB.out.size))
  replace HW := Lib.hid (HW.out.below hb_ HW.out.lt)
  replace Hg := Lib.hid (Hg.out.below hb_)
  replace Hs := Lib.hid (Hs.out.below hb_)
  replace Hr := Lib.hid (Hr.out.below hb_)
  clear hb_
  clear Hs Hr
  obtain ⟨v2a, hv2a⟩ : ∃ v, v = (v1.alloc (.cells (sgV 0 none 0 0 none 0 0).toArray 37)) := ⟨_, rfl⟩
  obtain ⟨X8, hX8⟩ : ∃ v, v = v1.heap.size := ⟨_, rfl⟩
  have hNX8 : Blk (v1.alloc (.cells (sgV 0 none 0 0 none 0 0).toArray 37)) X8 37 (sgV 0 none 0 0 none 0 0).toArray := by
    have := Blk.new v1 37 (sgV 0 none 0 0 none 0 0).toArray
    skip
    rw [hX8]; exact this
  rw [← hv2a] at hNX8
  have hbA : Below v1.heap.size v1 v2a := by
    rw [hv2a]; exact (Below.refl _ _).alloc (by simp) _
  have HNX8 := Lib.hid hNX8
  have hkX8 := (KeptIn.refl (fun b => b ≠ X8) v2a).setRow (g := X8) (fun h => h rfl) (sgV 0 none 0 0 none 0 0).toArray
  replace hNX8 : Blk (v2a.setRow X8 (sgV 0 none 0 0 none 0 0).toArray) X8 37 (sgV 0 none 0 0 none 0 0).toArray := setRow_heap _ _ _ _ _ _ HNX8.out
  obtain ⟨v2, hv2⟩ : ∃ v, v = (v2a.setRow X8 (sgV 0 none 0 0 none 0 0).toArray) := ⟨_, rfl⟩
  have hbB : Below v1.heap.size v1 v2 := by rw [hv2]; exact (Below.setRow hbA (show v1.heap.size ≤ X8 by omega) _)
  rw [← hv2] at hNX8
  have HBX8 := Lib.hid hNX8
  have Hv2a := Lib.hid hv2a
  have Hv2 := Lib.hid hv2
  have HEX8 := Lib.hid hX8
  clear hNX8 hkX8 hv2a hv2 hbA
  have hlX8 : w.heap.size ≤ X8 := by have := HB.out.size; omega
  have hoX8 : w.heap.size < X8 := by have := HW.out.lt; omega
  clear hX8
  go_upto_region 3 with (first | (refine wpList_alloc0 rfl 37 rfl (sgV 0 none 0 0 none 0 0).toArray _ i37 hi37 hz37 rfl ?_; simp only [Act.put, List.setIfInBounds_toArray, List.set_cons_succ, List.set_cons_zero]; try simp only [World.size_alloc]) | (rw [← Hv2a.out, ← HEX8.out]; refine wpList_store_row rfl 37 (.tmp 8) (.tmp 28) rfl X8 (sgV 0 none 0 0 none 0 0).toArray rfl rfl 37 _ HNX8.out (size37 _ rfl) rfl (sg_one _ _ _ _ _ _ _) ?_; rw [← Hv2.out]) | (refine wpList_buildN rfl 37 _ rfl [] rfl _ built37z ?_))
  replace HB := Lib.hid (HB.out.trans (hbB.mono HB.out.size))
  replace HW := Lib.hid (HW.out.below hbB HW.out.lt)
  replace Hg := Lib.hid (Hg.out.below hbB)
  clear hbB
  clear HNX8 HEX8 Hv2a Hv2
  have cx0 : v2.cell? ⟨w.heap.size, 0, none⟩ = some (.int .u8 (b0.toNat : Int)) := by rw [HW.out.cell]; rfl
  obtain ⟨n, hn⟩ : ∃ n : Nat, n = b0.toNat % 5 := ⟨_, rfl⟩
  have hh1 : ((b0.toNat : Int) % 5) = (n : Int) := by omega
  have hh2 : (b0.toNat : Int).tmod 5 = (n : Int) := by rw [Int.tmod_eq_emod_of_nonneg (by omega)]; exact hh1
  have hn4 : n ≤ 4 := by omega
  have hww : IntKind.u8.wrap (n : Int) = (n : Int) := by simp [IntKind.wrap, IntKind.bits, IntKind.signed]; omega
  have hw3 : IntKind.i64.wrap (n : Int) = (n : Int) := by simp [IntKind.wrap, IntKind.bits, IntKind.signed]; omega
  clear hn
  go_upto_region 4 with fail
  clear cx0 hh1 hh2 hww hw3
  obtain ⟨M, hM⟩ : ∃ M : Nat, M = 2 ^ n := ⟨_, rfl⟩
  have hM0 : 0 < M := by rw [hM]; exact Nat.two_pow_pos n
  have hsh : IntKind.i64.wrap (2 ^ n) = (M : Int) := by rw [hM]; rcases (show n = 0 ∨ n = 1 ∨ n = 2 ∨ n = 3 ∨ n = 4 by omega) with rfl | rfl | rfl | rfl | rfl <;> rfl
  have wb : IntKind.i64.wrap (b1.toNat : Int) = (b1.toNat : Int) := by have := b1.toNat_lt; simp [IntKind.wrap, IntKind.bits, IntKind.signed]; omega
  obtain ⟨N, hN⟩ : ∃ N : Nat, N = b1.toNat % M := ⟨_, rfl⟩
  have wq : (b1.toNat : Int).tmod (M : Int) = (N : Int) := by rw [Int.tmod_eq_emod_of_nonneg (by omega), hN]; push_cast; rfl
  have wq0 : ¬ ((M : Int) = 0) := by omega
  have wq1 : ¬ (M = 0) := by omega
  have hNM : N < M := by rw [hN]; exact Nat.mod_lt _ hM0
  have HM := Lib.hid hM
  clear hM hN
  refine wp_region_flow_tail 7 [33, 34, 35, 36, 37, 38, 39] [(Spec.is (.pointer (some ⟨w.heap.size, 1, none⟩)), false), (Spec.is (.int .u8 (b1.toNat : Int)), false), (Spec.is (.int .i64 (b1.toNat : Int)), false), (Spec.is (.int .i64 (n : Int)), false), (Spec.is (.int .i64 (M : Int)), false), (Spec.is (.int .i64 (N : Int)), false), (Spec.is (.pointer (some ⟨X8, 0, none⟩)), false)] 188 (by kernel_rfl) (List.take_append_drop _ _) rfl (by kernel_rfl) (by kernel_rfl) (by kernel_rfl) (by decide) (by kernel_rfl) (by kernel_rfl) (fun _ _ d _ _ h => by cases d <;> exact h) rfl (by decide) rfl (by decide) (by kernel_rfl) ?_ ?_
  · refine ⟨?_, ?_, ?_, ?_, ?_, ?_, ?_, trivial⟩
    · intro a W hE hb hs
      have h4 : a.eval (.tmp 4) = .pointer (some ⟨w.heap.size, 0, none⟩) := hb 4 (by decide)
      refine flow0 rfl ?_
      intro K hK
      unfold Oper.wp execOp
      simp only [h4, BigFrame.eval_const]
      simp [go_sem]
      exact hK _ _ ⟨Below.refl _ _, rfl, trivial⟩
    · intro a W hE hb hs
      have h33 : a.eval (.tmp 33) = .pointer (some ⟨w.heap.size, 1, none⟩) := hs 0 (by decide)
      refine flow0 rfl ?_
      have g0 : W.cell? ⟨w.heap.size, 1, none⟩ = some (.int .u8 (b1.toNat : Int)) := by rw [(HW.out.below (ext_below hE) HW.out.lt).cell]; rfl
      intro K hK
      unfold Oper.wp execOp
      simp only [h33, BigFrame.eval_const]
      simp [go_sem, g0]
      exact hK _ _ ⟨Below.refl _ _, rfl, trivial⟩
    · intro a W hE hb hs
      have h34 : a.eval (.tmp 34) = .int .u8 (b1.toNat : Int) := hs 1 (by decide)
      refine flow0 rfl ?_
      intro K hK
      unfold Oper.wp execOp
      simp only [h34, BigFrame.eval_const]
      simp [go_sem, wb]
      exact hK _ _ ⟨Below.refl _ _, rfl, trivial⟩
    · intro a W hE hb hs
      have h9 : a.eval (.tmp 9) = .int .i64 (n : Int) := hb 9 (by decide)
      refine flow0 rfl ?_
      exact val_move _ rfl _ h9 ⟨rfl, trivial⟩
    · intro a W hE hb hs
      have h36 : a.eval (.tmp 36) = .int .i64 (n : Int) := hs 3 (by decide)
      refine flow0 rfl ?_
      intro K hK
      unfold Oper.wp execOp
      simp only [h36, BigFrame.eval_const]
      simp [go_sem, hsh]
      exact hK _ _ ⟨Below.refl _ _, rfl, trivial⟩
    · intro a W hE hb hs
      have h35 : a.eval (.tmp 35) = .int .i64 (b1.toNat : Int) := hs 2 (by decide)
      have h37 : a.eval (.tmp 37) = .int .i64 (M : Int) := hs 4 (by decide)
      refine flow0 rfl ?_
      intro K hK
      unfold Oper.wp execOp
      simp only [h35, h37, BigFrame.eval_const]
      simp [go_sem, wq, wq0, wq1]
      exact hK _ _ ⟨Below.refl _ _, rfl, trivial⟩
    · intro a W hE hb hs
      have h8 : a.eval (.tmp 8) = .pointer (some ⟨X8, 0, none⟩) := hb 8 (by decide)
      refine flow0 rfl ?_
      intro K hK
      unfold Oper.wp execOp
      simp only [h8, BigFrame.eval_const]
      simp [go_sem]
      exact hK _ _ ⟨Below.refl _ _, rfl, trivial⟩
  intro f W hb hT hp hd
  have e38 : f 38 = .int .i64 (N : Int) := hT 5 (by decide)
  have e39 : f 39 = .pointer (some ⟨X8, 0, none⟩) := hT 6 (by decide)
  simp only [putV, List.foldl_cons, List.foldl_nil, Act.put, List.setIfInBounds_toArray, List.set_cons_succ, List.set_cons_zero, Exit.then]
  rw [e38, e39]
  replace HB := Lib.hid (HB.out.trans (hb.mono HB.out.size))
  replace HW := Lib.hid (HW.out.below hb HW.out.lt)
  replace Hg := Lib.hid (Hg.out.below hb)
  replace HBX8 := Lib.hid (HBX8.out.below hb HBX8.out.lt)
  clear hb hT hp hd e38 e39 wq wq0 wq1 wb hsh
  have fr2 := HBX8.out.frozen 0
  have c2 : W.cell? ⟨X8, 0, none⟩ = some (.int .i64 0) := by rw [HBX8.out.cell]; rfl
  go_upto_region 5 with fail
  clear fr2 c2
  obtain ⟨wL, hwL⟩ : ∃ v, v = W.setCell ⟨X8, 0, none⟩ (.int .i64 (N : Int)) := ⟨_, rfl⟩
  rw [← hwL]
  have hkx := (KeptIn.refl (fun b => b ≠ X8) W).setAt (p := ⟨X8, 0, none⟩) (fun h => h rfl) (.int .i64 (N : Int))
  rw [← hwL] at hkx
  have hXX : Blk wL X8 37 #[.int .i64 (N : Int), .slice none 0 0, .slice none 0 0] := by rw [hwL]; exact heap_setCell_same W X8 0 _ 37 _ HBX8.out
  have hg1 := Hg0.out.size
  replace HW := Lib.hid (HW.out.keptIn hkx (show w.heap.size ≠ X8 by omega))
  replace Hg := Lib.hid (show Globs _ from Hg.out.keptIn hkx (show (0 : Nat) ≠ X8 by omega) (show (1 : Nat) ≠ X8 by omega))
  replace HB := Lib.hid (show Below w.heap.size w wL by rw [hwL]; exact Below.setCell HB.out (by omega) _)
  replace HBX8 := Lib.hid hXX
  clear hXX hkx hwL
  have hs8 : X8 < wL.heap.size := HBX8.out.lt
  go_upto_region 6 with fail
  go_loopw [10, 11] (fun v10 _ wr => ∃ (j : Nat) (v1 v2 : Value), v10 = .int .i64 (j : Int) ∧ j ≤ 67 + n ∧ Blk wr X8 37 #[.int .i64 (N : Int), v1, v2] ∧ PRow (xB bs) wL.heap.size j v1 v2 wr ∧ KeptIn (fun b => b < wL.heap.size ∧ b ≠ X8) wL wr) (fun v10 _ _ => 67 + n - (intOf v10).toNat)
  case atStart => exact ⟨0, .slice none 0 0, .slice none 0 0, rfl, by omega, HBX8.out, .inl ⟨by omega, rfl, AppZ.nil _⟩, KeptIn.refl _ _⟩
  case round =>
    obtain ⟨j, v1, v2, rfl, hj, h4, hrow, hkr⟩ := hrel
    have HX4r := Lib.hid h4
    have Hrow := Lib.hid hrow
    have Hkr := Lib.hid hkr
    have hszr := hkr.size
    have Hsr := Lib.hid (Hs00.out.below (HB.out.trans (hkr.below (fun b (hb : b < w.heap.size) => ⟨by omega, by omega⟩))))
    clear h4 hrow hkr
    by_cases hlt : j < 67 + n
    · skip
      have d0 : decide ((j : Int) < 67 + (n : Int)) = true := decide_eq_true (by omega)
      have q1 : IntKind.i64.wrap (67 + (n : Int)) = 67 + (n : Int) := by simp [IntKind.wrap, IntKind.bits, IntKind.signed]; omega
      have hwj := b8_wrap (j : Int)
      obtain ⟨y, hy⟩ : ∃ y, y = shaB (b8 (j : Int)) := ⟨_, rfl⟩
      obtain ⟨wy, hwy⟩ : ∃ v, v = (wr.alloc (.cells zero32 26)).setRow wr.heap.size (sumC y).toArray := ⟨_, rfl⟩
      obtain ⟨X11, hX11⟩ : ∃ v, v = wr.heap.size := ⟨_, rfl⟩
      have hN6 : Blk (wr.alloc (.cells zero32 26)) X11 26 zero32 := by rw [hX11]; exact Blk.new _ _ _
      have hx6 : Blk wy X11 26 (sumC y).toArray := by rw [hwy, hX11]; exact setRow_heap _ _ _ _ _ _ (by rw [← hX11]; exact hN6)
      have hby : Below wr.heap.size wr wy := by rw [hwy]; exact Below.setRow ((Below.refl _ _).alloc (Nat.le_refl _) _) (Nat.le_refl _) _
      have HN6 := Lib.hid hN6
      have Hy6 := Lib.hid hx6
      have HWY := Lib.hid hwy
      have HEX := Lib.hid hX11
      have HY := Lib.hid hy
      have Hby := Lib.hid hby
      have hx11 : wr.heap.size ≤ X11 := by omega
      have bq := builtSum1 (b8 (j : Int))
      rw [← hy] at bq
      clear hwy hX11 hN6 hx6 hby hy
      go_upto_region 9 with (first | (refine wpList_buildN rfl 26 _ rfl [(0, .int .u8 ((b8 (j : Int)).toNat : Int))] rfl _ bq ?_) | (refine wpList_alloc0 rfl 26 rfl zero32 _ i32 hi32 hz32 rfl ?_; simp only [Act.put, List.setIfInBounds_toArray, List.set_cons_succ, List.set_cons_zero]) | (refine wpList_store_row rfl 26 (.tmp 11) (.tmp 48) rfl wr.heap.size (sumC y).toArray rfl rfl 26 _ (HEX.out ▸ HN6.out) (size32 _ (sum_size _)) ((zero32_size).trans (sum_size _).symm) (all_oneCell_toArray (oneB _)) ?_; rw [← HWY.out, ← HEX.out]))
      clear d0 q1 hwj bq HN6 HWY HEX
      obtain ⟨x, hx⟩ : ∃ x, x = xB bs j := ⟨_, rfl⟩
      have hSx := Lib.hid hx
      by_cases hL : ls = 0
      · have dL : decide ((ls : Int) > 0) = false := decide_eq_false (by omega)
        have dL' : decide ((0 : Int) < (ls : Int)) = false := decide_eq_false (by omega)
        have dL2 : decide (0 < ls) = false := decide_eq_false (by omega)
        have dL3 : ¬ (0 < ls) := by omega
        have hxy : y = x := by rw [HY.out, hx]; exact (xB_nil (by rw [← Hsl.out] at hL; exact hL) j).symm
        rw [hxy] at Hy6
        have HLz := Lib.hid hL
        clear hx hxy HY hL
        obtain ⟨wx, hwx⟩ : ∃ wx, wx = wy := ⟨_, rfl⟩
        subst hwx
        have Hx6 := Lib.hid (Blk.range Hy6.out)
        replace HX4r := Lib.hid (HX4r.out.below Hby.out HX4r.out.lt)
        replace Hrow := Lib.hid (Hrow.out.below Hby.out)
        replace Hkr := Lib.hid (Hkr.out.trans (KeptIn.of_below Hby.out (fun b hb => by have := hb.1; omega)))
        have hszx : wL.heap.size ≤ wx.heap.size := Hkr.out.size
        clear Hy6 Hby
        have hsW : wL.heap.size ≤ (wx.alloc (.cells (sumC x).toArray 26)).heap.size := by rw [World.size_alloc]; omega
        have wj1 : IntKind.i64.wrap ((j : Int) + 1) = (j : Int) + 1 := by simp [IntKind.wrap, IntKind.bits, IntKind.signed]; omega
        by_cases h67 : j < 67
        · have d1 : decide ((j : Int) < 67) = true := decide_eq_true (by omega)
          obtain ⟨hv2, ha1⟩ := Hrow.out.fst (by omega)
          have gx4 : wx.cell? ⟨X8, 1, none⟩ = some v1 := by rw [HX4r.out.cell]; rfl
          have frX := HX4r.out.frozen 1
          have Hrd := Lib.hid (rd32_one (Blk.new wx 26 (sumC x).toArray))
          have Hal := Lib.hid ((Below.refl wx.heap.size wx).alloc (Nat.le_refl _) (.cells (sumC x).toArray 26))
          have Happ := Lib.hid (ha1.alloc (.cells (sumC x).toArray 26))
          have HownG := Lib.hid (show some X8 ≠ v1.ownBlock from fun e => by have := (ha1.lt X8 e.symm).1; omega)
          have HV2 := Lib.hid hv2
          clear ha1 hv2
          go_wp2_with (first | (refine wpList_load_mid rfl 26 (.tmp 11) rfl X11 0 rfl (sumC x) _ Hx6.out und32 rfl (by rw [sumC_len]; kernel_rfl) ?_) | (refine wpList_build1s rfl 35 26 (.tmp 64) rfl (sumC x).toArray i32 _ 32 Tryd.underlying35 hi32 hz32 hs32 (by omega) (by omega) rfl (sum_size _) ?_) | (at_builtin; refine wpList_appz rfl (.tmp 63) (.tmp 65) 35 rfl 26 i32 (.agg zero32) 32 32 Tryd.underlying35 hi32 hz32 hs32 hy32 rfl (by omega) wL.heap.size hsW v1 _ _ rfl Happ.out (some ⟨wx.heap.size, 0, none⟩) 1 1 (sumC x) rfl Hrd.out (oneB _) (by unfold maxLen; omega) (by omega) ?_; intro v9 W9 ha9 hg9; have Hg9 := Lib.hid hg9; have Ha9 := Lib.hid ha9; obtain ⟨A9, c9, rfl, hc9, hr9⟩ := ha9.rd; have hGa := (HX4r.out.alloc (.cells (sumC x).toArray 26)).kept hg9 HownG.out; have frG9 := hGa.frozen 1; have gf9 : W9.cell? ⟨X8, 1, none⟩ = some v1 := (by rw [hGa.cell]; rfl); have HGa := Lib.hid hGa; clear hg9 hGa ha9 hr9))
          have hk9 := (KeptIn.of_below ((Below.refl wL.heap.size _).grown Hg9.out hsW (fun g e => (Happ.out.lt g e).1)) (S := fun b => b < wL.heap.size ∧ b ≠ X8) (fun b hb => hb.1)).setAt (p := ⟨X8, 1, none⟩) (fun h => h.2 rfl) (.slice A9 (j + 1) c9)
          have hk0 := KeptIn.of_below (S := fun b => b < wL.heap.size ∧ b ≠ X8) Hal.out (fun b hb => by have := hb.1; omega)
          refine ⟨⟨j + 1, .slice A9 (j + 1) c9, v2, by push_cast; rfl, by omega, heap_setCell_same W9 X8 1 _ 37 _ HGa.out, .inl ⟨by omega, HV2.out, ?_⟩, (Hkr.out.trans hk0).trans hk9⟩, by simp only [intOf]; omega⟩
          rw [rowsF_succ, Nat.zero_add, ← hSx.out, List.flatMap_append]
          have := Ha9.out.setAt (i := 1) (u := .slice A9 (j + 1) c9) HGa.out (by decide)
          simpa using this
        · have d1 : decide ((j : Int) < 67) = false := decide_eq_false (by omega)
          obtain ⟨base2, p1, p2, p3, p4, p5⟩ := Hrow.out.snd (by omega) hszx
          have gx4 : wx.cell? ⟨X8, 2, none⟩ = some v2 := by rw [HX4r.out.cell]; rfl
          have frX := HX4r.out.frozen 2
          have Hrd := Lib.hid (rd32_one (Blk.new wx 26 (sumC x).toArray))
          have Hal := Lib.hid ((Below.refl wx.heap.size wx).alloc (Nat.le_refl _) (.cells (sumC x).toArray 26))
          have Happ := Lib.hid (p5.alloc (.cells (sumC x).toArray 26))
          have HownG := Lib.hid (show some X8 ≠ v2.ownBlock from fun e => by have := (p5.lt X8 e.symm).1; omega)
          have Hne := Lib.hid (show v1.ownBlock = none ∨ v1.ownBlock ≠ v2.ownBlock from by
            cases e : v1.ownBlock with
            | none => exact .inl rfl
            | some g => exact .inr fun e' => by have h1 := p3 g e; have h2 := (p5.lt g e'.symm).1; omega)
          have H4p := Lib.hid (p4.alloc (.cells (sumC x).toArray 26))
          have P3 := Lib.hid p3
          replace hsW : base2 ≤ (wx.alloc (.cells (sumC x).toArray 26)).heap.size := by rw [World.size_alloc]; omega
          have hj67 : j - 67 ≤ 256 := by omega
          clear p4 p5 p3
          go_wp2_with (first | (refine wpList_load_mid rfl 26 (.tmp 11) rfl X11 0 rfl (sumC x) _ Hx6.out und32 rfl (by rw [sumC_len]; kernel_rfl) ?_) | (refine wpList_build1s rfl 35 26 (.tmp 70) rfl (sumC x).toArray i32 _ 32 Tryd.underlying35 hi32 hz32 hs32 (by omega) (by omega) rfl (sum_size _) ?_) | (at_builtin; refine wpList_appz rfl (.tmp 69) (.tmp 71) 35 rfl 26 i32 (.agg zero32) 32 32 Tryd.underlying35 hi32 hz32 hs32 hy32 rfl (by omega) base2 hsW v2 _ _ rfl Happ.out (some ⟨wx.heap.size, 0, none⟩) 1 1 (sumC x) rfl Hrd.out (oneB _) (by unfold maxLen; omega) (by omega) ?_; intro v9 W9 ha9 hg9; have Hg9 := Lib.hid hg9; have Ha9 := Lib.hid ha9; obtain ⟨A9, c9, rfl, hc9, hr9⟩ := ha9.rd; have hGa := (HX4r.out.alloc (.cells (sumC x).toArray 26)).kept hg9 HownG.out; have frG9 := hGa.frozen 2; have gf9 : W9.cell? ⟨X8, 2, none⟩ = some v2 := (by rw [hGa.cell]; rfl); have HGa := Lib.hid hGa; clear hg9 hGa ha9 hr9))
          have hB9 : Below base2 _ W9 := (Below.refl base2 _).grown Hg9.out hsW (fun g e => (Happ.out.lt g e).1)
          have hk9 := (KeptIn.of_below hB9 (S := fun b => b < wL.heap.size ∧ b ≠ X8) (fun b hb => by have := hb.1; omega)).setAt (p := ⟨X8, 2, none⟩) (fun h => h.2 rfl) (.slice A9 (j - 67 + 1) c9)
          have hk0 := KeptIn.of_below (S := fun b => b < wL.heap.size ∧ b ≠ X8) Hal.out (fun b hb => by have := hb.1; omega)
          have h49 := (H4p.out.kept Hg9.out Hne.out).setAt (i := 2) (u := .slice A9 (j - 67 + 1) c9) HGa.out (by decide)
          have h59 := Ha9.out.setAt (i := 2) (u := .slice A9 (j - 67 + 1) c9) HGa.out (by decide)
          refine ⟨⟨j + 1, v1, .slice A9 (j - 67 + 1) c9, by push_cast; rfl, by omega, heap_setCell_same W9 X8 2 _ 37 _ HGa.out, .inr ⟨by omega, base2, p1, Nat.le_trans hsW (by have := hB9.size; simpa using this), P3.out, h49, ?_⟩, (Hkr.out.trans hk0).trans hk9⟩, by simp only [intOf]; omega⟩
          rw [show j + 1 - 67 = (j - 67) + 1 by omega, rowsF_succ, show 67 + (j - 67) = j by omega, ← hSx.out, List.flatMap_append]
          simpa using h59
      · have dL : decide ((ls : Int) > 0) = true := decide_eq_true (by omega)
        have dL' : decide ((0 : Int) < (ls : Int)) = true := decide_eq_true (by omega)
        obtain ⟨r, hr_⟩ : ∃ r, r = j % ls := ⟨_, rfl⟩
        have hrl : r < ls := by rw [hr_]; exact Nat.mod_lt _ (by omega)
        have tm : (j : Int).tmod (ls : Int) = (r : Int) := by rw [Int.tmod_eq_emod_of_nonneg (by omega), hr_]; push_cast; rfl
        have nz : ¬ ((ls : Int) = 0) := by omega
        have hr0 : (0 : Int) ≤ (r : Int) := by omega
        have hrL : (r : Int) < (ls : Int) := by omega
        obtain ⟨bb, bo, hAe, _⟩ := Hsr.out.2.2 (by omega)
        obtain ⟨b, hb⟩ : ∃ b, bs[r]? = some b := ⟨_, List.getElem?_eq_getElem (by have := Hsl.out; omega)⟩
        have gb : wy.cell? ⟨bb, bo + r, none⟩ = some (.int .u8 (b.toNat : Int)) := by
          have h := Hsr.out.below Hby.out
          obtain ⟨b', o', e, hc⟩ := h.2.2 (by omega)
          rw [hAe] at e
          cases e
          exact hc r (byteV b) (by rw [List.getElem?_map, hb]; rfl)
        subst hAe
        have hset : (sumC y).toArray.setIfInBounds 1 (.int .u8 (b.toNat : Int)) = (sumC x).toArray := by
          rw [HY.out, hx]
          exact xB_set (by rw [Hsl.out, ← hr_]; exact hb)
        have fr1 := Hy6.out.frozen 1
        have c1_ : wy.cell? ⟨X11, 1, none⟩ = some (.int .u8 0) := by rw [Hy6.out.cell, HY.out]; rfl
        obtain ⟨wx, hwx⟩ : ∃ v, v = wy.setCell ⟨X11, 1, none⟩ (.int .u8 (b.toNat : Int)) := ⟨_, rfl⟩
        have hx6 : Blk wx X11 26 (sumC x).toArray := by rw [hwx, ← hset]; exact heap_setCell_same wy X11 1 _ 26 _ Hy6.out
        have hbx : Below wr.heap.size wr wx := by rw [hwx]; exact Below.setCell Hby.out hx11 _
        have Hx6 := Lib.hid (Blk.range hx6)
        have HWX := Lib.hid hwx
        replace HX4r := Lib.hid (HX4r.out.below hbx HX4r.out.lt)
        replace Hrow := Lib.hid (Hrow.out.below hbx)
        replace Hkr := Lib.hid (Hkr.out.trans (KeptIn.of_below hbx (fun b hb => by have := hb.1; omega)))
        have hszx : wL.heap.size ≤ wx.heap.size := Hkr.out.size
        clear hr_ hb hset hwx hx6 hbx Hy6 Hby hx HY
        go_upto_region 11 with fail
        rw [← HWX.out]
        clear HWX gb fr1 c1_ tm nz hr0 hrL dL dL'
        have hsW : wL.heap.size ≤ (wx.alloc (.cells (sumC x).toArray 26)).heap.size := by rw [World.size_alloc]; omega
        have wj1 : IntKind.i64.wrap ((j : Int) + 1) = (j : Int) + 1 := by simp [IntKind.wrap, IntKind.bits, IntKind.signed]; omega
        by_cases h67 : j < 67
        · have d1 : decide ((j : Int) < 67) = true := decide_eq_true (by omega)
          obtain ⟨hv2, ha1⟩ := Hrow.out.fst (by omega)
          have gx4 : wx.cell? ⟨X8, 1, none⟩ = some v1 := by rw [HX4r.out.cell]; rfl
          have frX := HX4r.out.frozen 1
          have Hrd := Lib.hid (rd32_one (Blk.new wx 26 (sumC x).toArray))
          have Hal := Lib.hid ((Below.refl wx.heap.size wx).alloc (Nat.le_refl _) (.cells (sumC x).toArray 26))
          have Happ := Lib.hid (ha1.alloc (.cells (sumC x).toArray 26))
          have HownG := Lib.hid (show some X8 ≠ v1.ownBlock from fun e => by have := (ha1.lt X8 e.symm).1; omega)
          have HV2 := Lib.hid hv2
          clear ha1 hv2
          go_wp2_with (first | (refine wpList_load_mid rfl 26 (.tmp 11) rfl X11 0 rfl (sumC x) _ Hx6.out und32 rfl (by rw [sumC_len]; kernel_rfl) ?_) | (refine wpList_build1s rfl 35 26 (.tmp 64) rfl (sumC x).toArray i32 _ 32 Tryd.underlying35 hi32 hz32 hs32 (by omega) (by omega) rfl (sum_size _) ?_) | (at_builtin; refine wpList_appz rfl (.tmp 63) (.tmp 65) 35 rfl 26 i32 (.agg zero32) 32 32 Tryd.underlying35 hi32 hz32 hs32 hy32 rfl (by omega) wL.heap.size hsW v1 _ _ rfl Happ.out (some ⟨wx.heap.size, 0, none⟩) 1 1 (sumC x) rfl Hrd.out (oneB _) (by unfold maxLen; omega) (by omega) ?_; intro v9 W9 ha9 hg9; have Hg9 := Lib.hid hg9; have Ha9 := Lib.hid ha9; obtain ⟨A9, c9, rfl, hc9, hr9⟩ := ha9.rd; have hGa := (HX4r.out.alloc (.cells (sumC x).toArray 26)).kept hg9 HownG.out; have frG9 := hGa.frozen 1; have gf9 : W9.cell? ⟨X8, 1, none⟩ = some v1 := (by rw [hGa.cell]; rfl); have HGa := Lib.hid hGa; clear hg9 hGa ha9 hr9))
          have hk9 := (KeptIn.of_below ((Below.refl wL.heap.size _).grown Hg9.out hsW (fun g e => (Happ.out.lt g e).1)) (S := fun b => b < wL.heap.size ∧ b ≠ X8) (fun b hb => hb.1)).setAt (p := ⟨X8, 1, none⟩) (fun h => h.2 rfl) (.slice A9 (j + 1) c9)
          have hk0 := KeptIn.of_below (S := fun b => b < wL.heap.size ∧ b ≠ X8) Hal.out (fun b hb => by have := hb.1; omega)
          refine ⟨⟨j + 1, .slice A9 (j + 1) c9, v2, by push_cast; rfl, by omega, heap_setCell_same W9 X8 1 _ 37 _ HGa.out, .inl ⟨by omega, HV2.out, ?_⟩, (Hkr.out.trans hk0).trans hk9⟩, by simp only [intOf]; omega⟩
          rw [rowsF_succ, Nat.zero_add, ← hSx.out, List.flatMap_append]
          have := Ha9.out.setAt (i := 1) (u := .slice A9 (j + 1) c9) HGa.out (by decide)
          simpa using this
        · have d1 : decide ((j : Int) < 67) = false := decide_eq_false (by omega)
          obtain ⟨base2, p1, p2, p3, p4, p5⟩ := Hrow.out.snd (by omega) hszx
          have gx4 : wx.cell? ⟨X8, 2, none⟩ = some v2 := by rw [HX4r.out.cell]; rfl
          have frX := HX4r.out.frozen 2
          have Hrd := Lib.hid (rd32_one (Blk.new wx 26 (sumC x).toArray))
          have Hal := Lib.hid ((Below.refl wx.heap.size wx).alloc (Nat.le_refl _) (.cells (sumC x).toArray 26))
          have Happ := Lib.hid (p5.alloc (.cells (sumC x).toArray 26))
          have HownG := Lib.hid (show some X8 ≠ v2.ownBlock from fun e => by have := (p5.lt X8 e.symm).1; omega)
          have Hne := Lib.hid (show v1.ownBlock = none ∨ v1.ownBlock ≠ v2.ownBlock from by
            cases e : v1.ownBlock with
            | none => exact .inl rfl
            | some g => exact .inr fun e' => by have h1 := p3 g e; have h2 := (p5.lt g e'.symm).1; omega)
          have H4p := Lib.hid (p4.alloc (.cells (sumC x).toArray 26))
          have P3 := Lib.hid p3
          replace hsW : base2 ≤ (wx.alloc (.cells (sumC x).toArray 26)).heap.size := by rw [World.size_alloc]; omega
          have hj67 : j - 67 ≤ 256 := by omega
          clear p4 p5 p3
          go_wp2_with (first | (refine wpList_load_mid rfl 26 (.tmp 11) rfl X11 0 rfl (sumC x) _ Hx6.out und32 rfl (by rw [sumC_len]; kernel_rfl) ?_) | (refine wpList_build1s rfl 35 26 (.tmp 70) rfl (sumC x).toArray i32 _ 32 Tryd.underlying35 hi32 hz32 hs32 (by omega) (by omega) rfl (sum_size _) ?_) | (at_builtin; refine wpList_appz rfl (.tmp 69) (.tmp 71) 35 rfl 26 i32 (.agg zero32) 32 32 Tryd.underlying35 hi32 hz32 hs32 hy32 rfl (by omega) base2 hsW v2 _ _ rfl Happ.out (some ⟨wx.heap.size, 0, none⟩) 1 1 (sumC x) rfl Hrd.out (oneB _) (by unfold maxLen; omega) (by omega) ?_; intro v9 W9 ha9 hg9; have Hg9 := Lib.hid hg9; have Ha9 := Lib.hid ha9; obtain ⟨A9, c9, rfl, hc9, hr9⟩ := ha9.rd; have hGa := (HX4r.out.alloc (.cells (sumC x).toArray 26)).kept hg9 HownG.out; have frG9 := hGa.frozen 2; have gf9 : W9.cell? ⟨X8, 2, none⟩ = some v2 := (by rw [hGa.cell]; rfl); have HGa := Lib.hid hGa; clear hg9 hGa ha9 hr9))
          have hB9 : Below base2 _ W9 := (Below.refl base2 _).grown Hg9.out hsW (fun g e => (Happ.out.lt g e).1)
          have hk9 := (KeptIn.of_below hB9 (S := fun b => b < wL.heap.size ∧ b ≠ X8) (fun b hb => by have := hb.1; omega)).setAt (p := ⟨X8, 2, none⟩) (fun h => h.2 rfl) (.slice A9 (j - 67 + 1) c9)
          have hk0 := KeptIn.of_below (S := fun b => b < wL.heap.size ∧ b ≠ X8) Hal.out (fun b hb => by have := hb.1; omega)
          have h49 := (H4p.out.kept Hg9.out Hne.out).setAt (i := 2) (u := .slice A9 (j - 67 + 1) c9) HGa.out (by decide)
          have h59 := Ha9.out.setAt (i := 2) (u := .slice A9 (j - 67 + 1) c9) HGa.out (by decide)
          refine ⟨⟨j + 1, v1, .slice A9 (j - 67 + 1) c9, by push_cast; rfl, by omega, heap_setCell_same W9 X8 2 _ 37 _ HGa.out, .inr ⟨by omega, base2, p1, Nat.le_trans hsW (by have := hB9.size; simpa using this), P3.out, h49, ?_⟩, (Hkr.out.trans hk0).trans hk9⟩, by simp only [intOf]; omega⟩
          rw [show j + 1 - 67 = (j - 67) + 1 by omega, rowsF_succ, show 67 + (j - 67) = j by omega, ← hSx.out, List.flatMap_append]
          simpa using h59
    · skip
      have d0 : decide ((j : Int) < 67 + (n : Int)) = false := decide_eq_false (by omega)
      have q1 : IntKind.i64.wrap (67 + (n : Int)) = 67 + (n : Int) := by simp [IntKind.wrap, IntKind.bits, IntKind.signed]; omega
      have hjn : j = 67 + n := by omega
      obtain ⟨base2, p1, p2, p3, p4, p5⟩ := Hrow.out.snd (by omega) hszr
      rw [hjn, Nat.add_sub_cancel_left] at p5
      obtain ⟨C, cc, rfl, hcc, _⟩ := p4.rd
      obtain ⟨D, d, rfl, hdd, _⟩ := p5.rd
      obtain ⟨ch, hch⟩ : ∃ ch, ch = rowsF (xB bs) 0 67 := ⟨_, rfl⟩
      obtain ⟨pa, hpa⟩ : ∃ pa, pa = rowsF (xB bs) 67 n := ⟨_, rfl⟩
      rw [← hch] at p4
      rw [← hpa] at p5
      have hcl : ch.length = 67 := by rw [hch, rowsF_len]
      have hpl : pa.length = n := by rw [hpa, rowsF_len]
      have HC := Lib.hid p4.trd
      have HD := Lib.hid p5.trd
      replace HBX8 := Lib.hid (show Blk wr X8 37 (sgV (N : Int) C 67 cc D n d).toArray from HX4r.out)
      have hg1 := Hg0.out.size
      replace HW := Lib.hid (HW.out.keptIn Hkr.out ⟨by omega, by omega⟩)
      replace Hg := Lib.hid (show Globs _ from Hg.out.keptIn Hkr.out ⟨by omega, by omega⟩ ⟨by omega, by omega⟩)
      replace HB := Lib.hid (HB.out.trans (Hkr.out.below (fun b (hb : b < w.heap.size) => ⟨by omega, by omega⟩)))
      have Hr := Lib.hid (Hr0.out.below HB.out)
      obtain ⟨S, hS⟩ : ∃ S : Sg, S = ⟨(N : Int), ch, pa⟩ := ⟨_, rfl⟩
      have hform : formedS S = true := by rw [hS]; unfold formedS; rw [decide_eq_true_eq]; refine ⟨hcl, by dsimp only; omega, by dsimp only; omega, ?_⟩; dsimp only; rw [hpl]; have : N < 2 ^ n := by { rw [← HM.out]; exact hNM }; exact_mod_cast this
      have HF := Lib.hid hform
      have HS := Lib.hid hS
      clear p3 p4 p5 Hrow hch hpa hS hform HX4r Hkr hjn
      have Hsg := Lib.hid (Blk.range HBX8.out)
      go_upto_region 15 with (refine wpList_load_mid rfl 37 (.tmp 8) rfl X8 0 rfl (sgV (N : Int) C 67 cc D n d) d37 Hsg.out hd37 hrow37 (by rw [sgV_len]; kernel_rfl) ?_)
      clear d0
      refine (Bytes_any (N : Int) C D 67 cc n d ch pa wr HC.out.1 HD.out.1 (by omega) (by omega)).mono ?_
      rintro e v401 ⟨⟨A12, c12, rfl, hc12, hr12⟩, hb_⟩
      replace HB := Lib.hid (HB.out.trans (hb_.mono HB.out.size))
      replace Hg := Lib.hid (Hg.out.below hb_)
      replace HW := Lib.hid (HW.out.below hb_ HW.out.lt)
      replace Hr := Lib.hid (Hr.out.below hb_)
      replace HBX8 := Lib.hid (HBX8.out.below hb_ HBX8.out.lt)
      replace HC := Lib.hid (HC.out.below hb_)
      replace HD := Lib.hid (HD.out.below hb_)
      clear hb_
      rw [← HS.out] at hr12
      obtain ⟨P, hP⟩ : ∃ P, P = bytS S := ⟨_, rfl⟩
      rw [← hP] at hr12
      obtain ⟨L12, hL12⟩ : ∃ L12, L12 = 2 + 32 * 67 + 32 * n := ⟨_, rfl⟩
      rw [← hL12] at hr12 hc12 ⊢
      have Hp := Lib.hid hr12
      have HPs := Lib.hid hP
      have hPl : P.length = L12 := hr12.len1
      have hLs : L12 ≤ 3000 := by omega
      have hLbig : 2146 ≤ L12 := by omega
      have HL12 := Lib.hid hL12
      clear hr12 hP Hsg hL12
      go_upto_region 16 with fail
      have hpar_ : parS P = (S, 0) := by rw [HPs.out]; exact par_byt HF.out
      have hcon := Parse_any A12 (L12) c12 (P) v401 Hp.out hc12 (by omega)
      rw [hpar_] at hcon
      have Hcon := Lib.hid hcon
      clear hcon hpar_
      refine (Hcon.out).mono ?_
      rintro e v402 ⟨⟨C13, n13, c13, D13, m13, d13, rfl, hnc13, hmd13, hC13, hD13⟩, hb_⟩
      replace HB := Lib.hid (HB.out.trans (hb_.mono HB.out.size))
      replace Hg := Lib.hid (Hg.out.below hb_)
      replace HW := Lib.hid (HW.out.below hb_ HW.out.lt)
      replace Hr := Lib.hid (Hr.out.below hb_)
      replace HBX8 := Lib.hid (HBX8.out.below hb_ HBX8.out.lt)
      replace HC := Lib.hid (HC.out.below hb_)
      replace HD := Lib.hid (HD.out.below hb_)
      replace Hp := Lib.hid (Hp.out.below hb_)
      clear hb_
      have HC13 := Lib.hid hC13
      have HD13 := Lib.hid hD13
      clear hC13 hD13 Hcon
      obtain ⟨v403a, hv403a⟩ : ∃ v, v = (v402.alloc (.cells (sgV 0 none 0 0 none 0 0).toArray 37)) := ⟨_, rfl⟩
      obtain ⟨X13, hX13⟩ : ∃ v, v = v402.heap.size := ⟨_, rfl⟩
      have hNX13 : Blk (v402.alloc (.cells (sgV 0 none 0 0 none 0 0).toArray 37)) X13 37 (sgV 0 none 0 0 none 0 0).toArray := by
        have := Blk.new v402 37 (sgV 0 none 0 0 none 0 0).toArray
        skip
        rw [hX13]; exact this
      rw [← hv403a] at hNX13
      have hbA : Below v402.heap.size v402 v403a := by
        rw [hv403a]; exact (Below.refl _ _).alloc (by simp) _
      have HNX13 := Lib.hid hNX13
      have hkX13 := (KeptIn.refl (fun b => b ≠ X13) v403a).setRow (g := X13) (fun h => h rfl) (sgV S.i C13 n13 c13 D13 m13 d13).toArray
      replace hNX13 : Blk (v403a.setRow X13 (sgV S.i C13 n13 c13 D13 m13 d13).toArray) X13 37 (sgV S.i C13 n13 c13 D13 m13 d13).toArray := setRow_heap _ _ _ _ _ _ HNX13.out
      obtain ⟨v403, hv403⟩ : ∃ v, v = (v403a.setRow X13 (sgV S.i C13 n13 c13 D13 m13 d13).toArray) := ⟨_, rfl⟩
      have hbB : Below v402.heap.size v402 v403 := by rw [hv403]; exact (Below.setRow hbA (show v402.heap.size ≤ X13 by omega) _)
      rw [← hv403] at hNX13
      have HBX13 := Lib.hid hNX13
      have Hv403a := Lib.hid hv403a
      have Hv403 := Lib.hid hv403
      have HEX13 := Lib.hid hX13
      clear hNX13 hkX13 hv403a hv403 hbA
      have hlX13 : w.heap.size ≤ X13 := by have := HB.out.size; omega
      have hoX13 : w.heap.size < X13 := by have := HW.out.lt; omega
      have hoX8X13 : X8 < X13 := by have := HBX8.out.lt; omega
      clear hX13
      go_upto_region 16 with (first | (refine wpList_alloc0 rfl 37 rfl (sgV 0 none 0 0 none 0 0).toArray _ i37 hi37 hz37 rfl ?_; simp only [Act.put, List.setIfInBounds_toArray, List.set_cons_succ, List.set_cons_zero]; try simp only [World.size_alloc]) | (rw [← Hv403a.out, ← HEX13.out]; refine wpList_store_row rfl 37 (.tmp 13) (.tmp 79) rfl X13 (sgV S.i C13 n13 c13 D13 m13 d13).toArray rfl rfl 37 _ HNX13.out (size37 _ rfl) rfl (sg_one _ _ _ _ _ _ _) ?_; rw [← Hv403.out]))
      replace HB := Lib.hid (HB.out.trans (hbB.mono HB.out.size))
      replace Hg := Lib.hid (Hg.out.below hbB)
      replace HW := Lib.hid (HW.out.below hbB HW.out.lt)
      replace Hr := Lib.hid (Hr.out.below hbB)
      replace HBX8 := Lib.hid (HBX8.out.below hbB HBX8.out.lt)
      replace HC := Lib.hid (HC.out.below hbB)
      replace HD := Lib.hid (HD.out.below hbB)
      replace Hp := Lib.hid (Hp.out.below hbB)
      replace HC13 := Lib.hid (HC13.out.below hbB)
      replace HD13 := Lib.hid (HD13.out.below hbB)
      clear hbB
      clear HNX13 HEX13 Hv403a Hv403
      have l13 := HC13.out.1.lenf sumC_len (by omega)
      have k13 := HD13.out.1.lenf sumC_len (by omega)
      have hSc : S.ch = ch := by rw [HS.out]
      have hSp : S.pa = pa := by rw [HS.out]
      have hSi : S.i = (N : Int) := by rw [HS.out]
      rw [hSc] at l13
      rw [hSp] at k13
      have Hs13 := Lib.hid (Blk.range HBX13.out)
      have Hs8 := Lib.hid (Blk.range HBX8.out)
      go_wp2_with (first | (refine wpList_load_mid_g (by first | rfl | simp [Region.wanted, yielded]) 37 (.tmp 13) rfl X13 0 rfl (sgV S.i C13 n13 c13 D13 m13 d13) d37 Hs13.out hd37 hrow37 (by rw [sgV_len]; kernel_rfl) ?_) | (refine wpList_load_mid_g (by first | rfl | simp [Region.wanted, yielded]) 37 (.tmp 8) rfl X8 0 rfl (sgV (N : Int) C 67 cc D n d) d37 Hs8.out hd37 hrow37 (by rw [sgV_len]; kernel_rfl) ?_))
      have HC13' := Lib.hid (show Rd _ 32 C13 n13 (ch.flatMap sumC) by have := HC13.out.1; rwa [hSc] at this)
      have HD13' := Lib.hid (show Rd _ 32 D13 m13 (pa.flatMap sumC) by have := HD13.out.1; rwa [hSp] at this)
      refine (Same16_any (N : Int) (N : Int) C13 D13 C D n13 c13 m13 d13 67 cc n d ch pa ch pa v403 HC13'.out HD13'.out HC.out.1 HD.out.1 (by omega) (by omega) (by omega) (by omega)).mono ?_
      rintro e v404 ⟨rfl, hb_⟩
      replace HB := Lib.hid (HB.out.trans (hb_.mono HB.out.size))
      replace Hg := Lib.hid (Hg.out.below hb_)
      replace HW := Lib.hid (HW.out.below hb_ HW.out.lt)
      replace Hr := Lib.hid (Hr.out.below hb_)
      replace HBX8 := Lib.hid (HBX8.out.below hb_ HBX8.out.lt)
      replace HC := Lib.hid (HC.out.below hb_)
      replace HD := Lib.hid (HD.out.below hb_)
      replace Hp := Lib.hid (Hp.out.below hb_)
      replace HC13 := Lib.hid (HC13.out.below hb_)
      replace HD13 := Lib.hid (HD13.out.below hb_)
      replace HBX13 := Lib.hid (HBX13.out.below hb_ HBX13.out.lt)
      clear hb_
      rw [decide_eq_true ⟨rfl, rfl, rfl⟩]
      clear Hs13 Hs8 HC13' HD13' hSc hSp hSi
      clear HC13 HD13 HBX13
      have hL12 := HL12.out
      have q2 : IntKind.i64.wrap (32 * (67 + (n : Int))) = 32 * (67 + (n : Int)) := by simp [IntKind.wrap, IntKind.bits, IntKind.signed]; omega
      have q3 : IntKind.i64.wrap (2 + 32 * (67 + (n : Int))) = (L12 : Int) := by simp [IntKind.wrap, IntKind.bits, IntKind.signed]; omega
      have dq : ((L12 : Int) != (L12 : Int)) = false := by simp
      have q4 : IntKind.i64.wrap ((L12 : Int) - 1) = ((L12 - 1 : Nat) : Int) := by simp [IntKind.wrap, IntKind.bits, IntKind.signed]; omega
      have q5 : ((L12 - 1 : Nat) : Int) ≤ (c12 : Int) := by omega
      have q6 : (0 : Int) ≤ ((L12 - 1 : Nat) : Int) := by omega
      clear hL12
      obtain ⟨Lm, hLm⟩ : ∃ Lm : Nat, Lm = L12 - 1 := ⟨_, rfl⟩
      rw [← hLm] at q4 q5 q6
      have HLm := Lib.hid hLm
      have hLm1 : Lm ≤ c12 := by omega
      have hLm2 : Lm ≤ 3000 := by omega
      have hLm3 : Lm ≤ L12 := by omega
      clear hLm
      go_upto_region 19 with fail
      have hpar_ : parS (P.take Lm) = (sg0, 3) := par_bad (by rw [HLm.out, ← hPl, HPs.out]; exact par_less HF.out)
      have hcon := Parse_any A12 (Lm) c12 (P.take Lm) v404 (rd_take Hp.out hLm3) hLm1 (by omega)
      rw [hpar_] at hcon
      have Hcon := Lib.hid hcon
      clear hcon hpar_
      refine (Hcon.out).mono ?_
      rintro e v405 ⟨⟨C15, n15, c15, D15, m15, d15, rfl, hnc15, hmd15, hC15, hD15⟩, hb_⟩
      replace HB := Lib.hid (HB.out.trans (hb_.mono HB.out.size))
      replace Hg := Lib.hid (Hg.out.below hb_)
      replace HW := Lib.hid (HW.out.below hb_ HW.out.lt)
      replace Hr := Lib.hid (Hr.out.below hb_)
      replace HBX8 := Lib.hid (HBX8.out.below hb_ HBX8.out.lt)
      replace HC := Lib.hid (HC.out.below hb_)
      replace HD := Lib.hid (HD.out.below hb_)
      replace Hp := Lib.hid (Hp.out.below hb_)
      clear hb_
      have HC15 := Lib.hid hC15
      have HD15 := Lib.hid hD15
      clear hC15 hD15 Hcon
      dsimp only [sg0]
      obtain ⟨v406a, hv406a⟩ : ∃ v, v = (v405.alloc (.cells (sgV 0 none 0 0 none 0 0).toArray 37)) := ⟨_, rfl⟩
      obtain ⟨X15, hX15⟩ : ∃ v, v = v405.heap.size := ⟨_, rfl⟩
      have hNX15 : Blk (v405.alloc (.cells (sgV 0 none 0 0 none 0 0).toArray 37)) X15 37 (sgV 0 none 0 0 none 0 0).toArray := by
        have := Blk.new v405 37 (sgV 0 none 0 0 none 0 0).toArray
        skip
        rw [hX15]; exact this
      rw [← hv406a] at hNX15
      have hbA : Below v405.heap.size v405 v406a := by
        rw [hv406a]; exact (Below.refl _ _).alloc (by simp) _
      have HNX15 := Lib.hid hNX15
      have hkX15 := (KeptIn.refl (fun b => b ≠ X15) v406a).setRow (g := X15) (fun h => h rfl) (sgV 0 C15 n15 c15 D15 m15 d15).toArray
      replace hNX15 : Blk (v406a.setRow X15 (sgV 0 C15 n15 c15 D15 m15 d15).toArray) X15 37 (sgV 0 C15 n15 c15 D15 m15 d15).toArray := setRow_heap _ _ _ _ _ _ HNX15.out
      obtain ⟨v406, hv406⟩ : ∃ v, v = (v406a.setRow X15 (sgV 0 C15 n15 c15 D15 m15 d15).toArray) := ⟨_, rfl⟩
      have hbB : Below v405.heap.size v405 v406 := by rw [hv406]; exact (Below.setRow hbA (show v405.heap.size ≤ X15 by omega) _)
      rw [← hv406] at hNX15
      have HBX15 := Lib.hid hNX15
      have Hv406a := Lib.hid hv406a
      have Hv406 := Lib.hid hv406
      have HEX15 := Lib.hid hX15
      clear hNX15 hkX15 hv406a hv406 hbA
      have hlX15 : w.heap.size ≤ X15 := by have := HB.out.size; omega
      have hoX15 : w.heap.size < X15 := by have := HW.out.lt; omega
      have hoX8X15 : X8 < X15 := by have := HBX8.out.lt; omega
      clear hX15
      go_upto_region 19 with (first | (refine wpList_alloc0 rfl 37 rfl (sgV 0 none 0 0 none 0 0).toArray _ i37 hi37 hz37 rfl ?_; simp only [Act.put, List.setIfInBounds_toArray, List.set_cons_succ, List.set_cons_zero]; try simp only [World.size_alloc]) | (rw [← Hv406a.out, ← HEX15.out]; refine wpList_store_row rfl 37 (.tmp 15) (.tmp 105) rfl X15 (sgV 0 C15 n15 c15 D15 m15 d15).toArray rfl rfl 37 _ HNX15.out (size37 _ rfl) rfl (sg_one _ _ _ _ _ _ _) ?_; rw [← Hv406.out]))
      replace HB := Lib.hid (HB.out.trans (hbB.mono HB.out.size))
      replace Hg := Lib.hid (Hg.out.below hbB)
      replace HW := Lib.hid (HW.out.below hbB HW.out.lt)
      replace Hr := Lib.hid (Hr.out.below hbB)
      replace HBX8 := Lib.hid (HBX8.out.below hbB HBX8.out.lt)
      replace HC := Lib.hid (HC.out.below hbB)
      replace HD := Lib.hid (HD.out.below hbB)
      replace Hp := Lib.hid (Hp.out.below hbB)
      replace HC15 := Lib.hid (HC15.out.below hbB)
      replace HD15 := Lib.hid (HD15.out.below hbB)
      clear hbB
      clear HNX15 HEX15 Hv406a Hv406
      clear HC15 HD15 HBX15
      clear q1 q2 q3 dq q4 q5 q6
      have hbs := nil22
      have Hpa := Lib.hid (Hp.out.alloc (.cells #[] 5))
      have hsA : v406.heap.size ≤ (v406.alloc (.cells #[] 5)).heap.size := by rw [World.size_alloc]; omega
      have Hemp := Lib.hid (AppZ.empty (base := v406.heap.size) (e := 5) (sz := 1) v406 (Nat.le_refl _) (.cells #[] 5))
      go_upto_region 20 with (at_builtin; refine wpList_appz rfl (.tmp 107) (.tmp 108) 22 rfl 5 i0 (.int .u8 0) 1 1 Tryd.underlying22 hi0 hz0 hz1 hz2 rfl (by omega) v406.heap.size hsA _ _ _ rfl Hemp.out A12 L12 c12 (P.map byteV) rfl Hpa.out oneB1 (by unfold maxLen; omega) (by omega) ?_; intro vQ WQ haQ hgQ; have HgQ := Lib.hid hgQ; have HaQ := Lib.hid haQ; clear haQ hgQ)
      have HbQ := Lib.hid (((Below.refl v406.heap.size v406).alloc (Nat.le_refl _) (.cells #[] 5)).trans ((Below.refl v406.heap.size _).grown HgQ.out hsA (fun g e => (Hemp.out.lt g e).1)))
      rw [Nat.zero_add, List.nil_append] at HaQ
      clear hbs Hpa Hemp HgQ
      have hsB : v406.heap.size ≤ (WQ.alloc (.cells #[.int .u8 0] 5)).heap.size := by have := HbQ.out.size; rw [World.size_alloc]; omega
      have HaQ2 := Lib.hid (HaQ.out.alloc (.cells #[.int .u8 0] 5))
      have Hlit := Lib.hid (Rd.of_own (own_lit WQ 5 (.int .u8 0)))
      go_wp2_with (at_builtin; refine wpList_appz rfl (.tmp 111) (.tmp 112) 22 rfl 5 i0 (.int .u8 0) 1 1 Tryd.underlying22 hi0 hz0 hz1 hz2 rfl (by omega) v406.heap.size hsB _ _ _ rfl HaQ2.out (some ⟨WQ.heap.size, 0, none⟩) 1 1 [.int .u8 0] rfl Hlit.out (by intro u hu; simp at hu; subst hu; rfl) (by unfold maxLen; omega) (by omega) ?_; intro vR WR haR hgR; have HgR := Lib.hid hgR; obtain ⟨A18, c18, rfl, hc18, hr18⟩ := haR.rd; have Hlong := Lib.hid (show Rd WR 1 A18 (L12 + 1) ((P ++ [0]).map byteV) by rw [List.map_append]; exact hr18); clear haR hgR hr18)
      have HbR := Lib.hid ((HbQ.out.trans ((Below.refl v406.heap.size WQ).alloc HbQ.out.size (.cells #[.int .u8 0] 5))).grown HgR.out hsB (fun g e => (HaQ2.out.lt g e).1))
      replace HB := Lib.hid (HB.out.trans (HbR.out.mono HB.out.size))
      replace Hg := Lib.hid (Hg.out.below HbR.out)
      replace HW := Lib.hid (HW.out.below HbR.out HW.out.lt)
      replace Hr := Lib.hid (Hr.out.below HbR.out)
      replace HBX8 := Lib.hid (HBX8.out.below HbR.out HBX8.out.lt)
      replace HC := Lib.hid (HC.out.below HbR.out)
      replace HD := Lib.hid (HD.out.below HbR.out)
      replace Hp := Lib.hid (Hp.out.below HbR.out)
      clear HbQ HbR HgR HaQ HaQ2 Hlit
      have hpar_ : parS (P ++ [0]) = (sg0, 3) := par_bad (by rw [HPs.out]; exact par_more HF.out 0)
      have hcon := Parse_any A18 (L12 + 1) c18 (P ++ [0]) WR Hlong.out hc18 (by omega)
      rw [hpar_] at hcon
      have Hcon := Lib.hid hcon
      clear hcon hpar_
      refine (Hcon.out).mono ?_
      rintro e v407 ⟨⟨C18, n18, c18_, D18, m18, d18, rfl, hnc18, hmd18, hC18, hD18⟩, hb_⟩
      replace HB := Lib.hid (HB.out.trans (hb_.mono HB.out.size))
      replace Hg := Lib.hid (Hg.out.below hb_)
      replace HW := Lib.hid (HW.out.below hb_ HW.out.lt)
      replace Hr := Lib.hid (Hr.out.below hb_)
      replace HBX8 := Lib.hid (HBX8.out.below hb_ HBX8.out.lt)
      replace HC := Lib.hid (HC.out.below hb_)
      replace HD := Lib.hid (HD.out.below hb_)
      replace Hp := Lib.hid (Hp.out.below hb_)
      replace Hlong := Lib.hid (Hlong.out.below hb_)
      clear hb_
      have HC18 := Lib.hid hC18
      have HD18 := Lib.hid hD18
      clear hC18 hD18 Hcon
      dsimp only [sg0]
      obtain ⟨v408a, hv408a⟩ : ∃ v, v = (v407.alloc (.cells (sgV 0 none 0 0 none 0 0).toArray 37)) := ⟨_, rfl⟩
      obtain ⟨X18, hX18⟩ : ∃ v, v = v407.heap.size := ⟨_, rfl⟩
      have hNX18 : Blk (v407.alloc (.cells (sgV 0 none 0 0 none 0 0).toArray 37)) X18 37 (sgV 0 none 0 0 none 0 0).toArray := by
        have := Blk.new v407 37 (sgV 0 none 0 0 none 0 0).toArray
        skip
        rw [hX18]; exact this
      rw [← hv408a] at hNX18
      have hbA : Below v407.heap.size v407 v408a := by
        rw [hv408a]; exact (Below.refl _ _).alloc (by simp) _
      have HNX18 := Lib.hid hNX18
      have hkX18 := (KeptIn.refl (fun b => b ≠ X18) v408a).setRow (g := X18) (fun h => h rfl) (sgV 0 C18 n18 c18_ D18 m18 d18).toArray
      replace hNX18 : Blk (v408a.setRow X18 (sgV 0 C18 n18 c18_ D18 m18 d18).toArray) X18 37 (sgV 0 C18 n18 c18_ D18 m18 d18).toArray := setRow_heap _ _ _ _ _ _ HNX18.out
      obtain ⟨v408, hv408⟩ : ∃ v, v = (v408a.setRow X18 (sgV 0 C18 n18 c18_ D18 m18 d18).toArray) := ⟨_, rfl⟩
      have hbB : Below v407.heap.size v407 v408 := by rw [hv408]; exact (Below.setRow hbA (show v407.heap.size ≤ X18 by omega) _)
      rw [← hv408] at hNX18
      have HBX18 := Lib.hid hNX18
      have Hv408a := Lib.hid hv408a
      have Hv408 := Lib.hid hv408
      have HEX18 := Lib.hid hX18
      clear hNX18 hkX18 hv408a hv408 hbA
      have hlX18 : w.heap.size ≤ X18 := by have := HB.out.size; omega
      have hoX18 : w.heap.size < X18 := by have := HW.out.lt; omega
      have hoX8X18 : X8 < X18 := by have := HBX8.out.lt; omega
      clear hX18
      go_upto_region 21 with (first | (refine wpList_alloc0 rfl 37 rfl (sgV 0 none 0 0 none 0 0).toArray _ i37 hi37 hz37 rfl ?_; simp only [Act.put, List.setIfInBounds_toArray, List.set_cons_succ, List.set_cons_zero]; try simp only [World.size_alloc]) | (rw [← Hv408a.out, ← HEX18.out]; refine wpList_store_row rfl 37 (.tmp 18) (.tmp 115) rfl X18 (sgV 0 C18 n18 c18_ D18 m18 d18).toArray rfl rfl 37 _ HNX18.out (size37 _ rfl) rfl (sg_one _ _ _ _ _ _ _) ?_; rw [← Hv408.out]))
      replace HB := Lib.hid (HB.out.trans (hbB.mono HB.out.size))
      replace Hg := Lib.hid (Hg.out.below hbB)
      replace HW := Lib.hid (HW.out.below hbB HW.out.lt)
      replace Hr := Lib.hid (Hr.out.below hbB)
      replace HBX8 := Lib.hid (HBX8.out.below hbB HBX8.out.lt)
      replace HC := Lib.hid (HC.out.below hbB)
      replace HD := Lib.hid (HD.out.below hbB)
      replace Hp := Lib.hid (Hp.out.below hbB)
      replace Hlong := Lib.hid (Hlong.out.below hbB)
      replace HC18 := Lib.hid (HC18.out.below hbB)
      replace HD18 := Lib.hid (HD18.out.below hbB)
      clear hbB
      clear HNX18 HEX18 Hv408a Hv408
      clear HC18 HD18 HBX18 Hlong
      have hbs := nil22
      have Hpa := Lib.hid (Hp.out.alloc (.cells #[] 5))
      have hsA : v408.heap.size ≤ (v408.alloc (.cells #[] 5)).heap.size := by rw [World.size_alloc]; omega
      have Hemp := Lib.hid (AppZ.empty (base := v408.heap.size) (e := 5) (sz := 1) v408 (Nat.le_refl _) (.cells #[] 5))
      go_upto_region 22 with (at_builtin; refine wpList_appz rfl (.tmp 117) (.tmp 118) 22 rfl 5 i0 (.int .u8 0) 1 1 Tryd.underlying22 hi0 hz0 hz1 hz2 rfl (by omega) v408.heap.size hsA _ _ _ rfl Hemp.out A12 L12 c12 (P.map byteV) rfl Hpa.out oneB1 (by unfold maxLen; omega) (by omega) ?_; intro vQ WQ haQ hgQ; have HgQ := Lib.hid hgQ; have HaQ := Lib.hid haQ; clear haQ hgQ)
      have HbQ := Lib.hid (((Below.refl v408.heap.size v408).alloc (Nat.le_refl _) (.cells #[] 5)).trans ((Below.refl v408.heap.size _).grown HgQ.out hsA (fun g e => (Hemp.out.lt g e).1)))
      rw [Nat.zero_add, List.nil_append] at HaQ
      clear hbs Hpa Hemp HgQ
      have HWq := Lib.hid (HW.out.below HbQ.out HW.out.lt)
      have cx1 : WQ.cell? ⟨w.heap.size, 1, none⟩ = some (.int .u8 (b1.toNat : Int)) := by rw [HWq.out.cell]; rfl
      have cx2 : WQ.cell? ⟨w.heap.size, 2, none⟩ = some (.int .u8 (b2.toNat : Int)) := by rw [HWq.out.cell]; rfl
      obtain ⟨A20, c20, rfl, hc20, hr20⟩ := HaQ.out.rd
      have htr := HaQ.out.trd
      obtain ⟨qb, qo, rfl, hqc⟩ := hr20.2.2 (by omega)
      have hqb : v408.heap.size ≤ qb := (HaQ.out.lt qb rfl).1
      obtain ⟨q, hq⟩ : ∃ q : Nat, q = b2.toNat % 4 % 2 := ⟨_, rfl⟩
      have hq1 : q ≤ 1 := by omega
      have h2l := b2.toNat_lt
      have wc2 : IntKind.i64.wrap (b2.toNat : Int) = (b2.toNat : Int) := by simp [IntKind.wrap, IntKind.bits, IntKind.signed]; omega
      have tq1 : (b2.toNat : Int).tmod 4 = ((b2.toNat % 4 : Nat) : Int) := by rw [Int.tmod_eq_emod_of_nonneg (by omega)]; push_cast; rfl
      have tq1' : ((b2.toNat : Int) % 4).tmod 2 = (q : Int) := by rw [Int.tmod_eq_emod_of_nonneg (by omega)]; omega
      have tq2 : ((b2.toNat % 4 : Nat) : Int).tmod 2 = (q : Int) := by rw [Int.tmod_eq_emod_of_nonneg (by omega)]; omega
      have tq3 : (b2.toNat : Int) % 4 % 2 = (q : Int) := by omega
      have hqL : (q : Int) < (L12 : Int) := by omega
      have hq0 : (0 : Int) ≤ (q : Int) := by omega
      clear hq
      obtain ⟨cur, hcur⟩ := htr.2 (by omega) qb qo rfl
      have frq := hcur.frozen (qo + q)
      obtain ⟨z, hz⟩ : ∃ z, P[q]? = some z := ⟨_, List.getElem?_eq_getElem (by omega)⟩
      have gq : WQ.cell? ⟨qb, qo + q, none⟩ = some (.int .u8 (z.toNat : Int)) := hqc q (byteV z) (by rw [List.getElem?_map, hz]; rfl)
      have hset := trd_set1 (v := byteV b1) htr (by omega) (p := q) (by rw [List.length_map]; omega)
      rw [← List.map_set] at hset
      obtain ⟨Q, hQ⟩ : ∃ Q, Q = P.set q b1 := ⟨_, rfl⟩
      rw [← hQ] at hset
      have hQl : Q.length = L12 := by rw [hQ, List.length_set, hPl]
      have HbS := Lib.hid (show Below v408.heap.size v408 (WQ.setCell ⟨qb, qo + q, none⟩ (byteV b1)) from Below.setCell HbQ.out hqb _)
      have Hset := Lib.hid hset.1
      clear htr hqc hcur hz hset hQ hr20
      unfold byteV at HbS Hset
      go_upto_region 23 with fail
      obtain ⟨WS, hWS⟩ : ∃ v, v = WQ.setCell ⟨qb, qo + q, none⟩ (.int .u8 (b1.toNat : Int)) := ⟨_, rfl⟩
      rw [← hWS] at HbS Hset ⊢
      clear hWS gq frq tq1 tq1' tq2 tq3 wc2 cx1 cx2 hqL hq0
      replace HB := Lib.hid (HB.out.trans (HbS.out.mono HB.out.size))
      replace Hg := Lib.hid (Hg.out.below HbS.out)
      replace HW := Lib.hid (HW.out.below HbS.out HW.out.lt)
      replace Hr := Lib.hid (Hr.out.below HbS.out)
      replace HBX8 := Lib.hid (HBX8.out.below HbS.out HBX8.out.lt)
      replace HC := Lib.hid (HC.out.below HbS.out)
      replace HD := Lib.hid (HD.out.below HbS.out)
      replace Hp := Lib.hid (Hp.out.below HbS.out)
      clear HbS HbQ HaQ HWq
      obtain ⟨T, hT⟩ : ∃ T, T = parS Q := ⟨_, rfl⟩
      have HT := Lib.hid hT
      clear hT
      go_upto_region 24 with fail
      have hcon := Parse_any (some ⟨qb, qo, none⟩) L12 c20 Q WS Hset.out hc20 (by omega)
      rw [← HT.out] at hcon
      have Hcon := Lib.hid hcon
      clear hcon
      refine (Hcon.out).mono ?_
      rintro e v409 ⟨⟨C21, n21, c21, D21, m21, d21, rfl, hnc21, hmd21, hC21, hD21⟩, hb_⟩
      replace HB := Lib.hid (HB.out.trans (hb_.mono HB.out.size))
      replace Hg := Lib.hid (Hg.out.below hb_)
      replace HW := Lib.hid (HW.out.below hb_ HW.out.lt)
      replace Hr := Lib.hid (Hr.out.below hb_)
      replace HBX8 := Lib.hid (HBX8.out.below hb_ HBX8.out.lt)
      replace HC := Lib.hid (HC.out.below hb_)
      replace HD := Lib.hid (HD.out.below hb_)
      replace Hp := Lib.hid (Hp.out.below hb_)
      replace Hset := Lib.hid (Hset.out.below hb_)
      clear hb_
      have HC21 := Lib.hid hC21
      have HD21 := Lib.hid hD21
      clear hC21 hD21 Hcon
      obtain ⟨v410a, hv410a⟩ : ∃ v, v = (v409.alloc (.cells (sgV 0 none 0 0 none 0 0).toArray 37)) := ⟨_, rfl⟩
      obtain ⟨X21, hX21⟩ : ∃ v, v = v409.heap.size := ⟨_, rfl⟩
      have hNX21 : Blk (v409.alloc (.cells (sgV 0 none 0 0 none 0 0).toArray 37)) X21 37 (sgV 0 none 0 0 none 0 0).toArray := by
        have := Blk.new v409 37 (sgV 0 none 0 0 none 0 0).toArray
        skip
        rw [hX21]; exact this
      rw [← hv410a] at hNX21
      have hbA : Below v409.heap.size v409 v410a := by
        rw [hv410a]; exact (Below.refl _ _).alloc (by simp) _
      have HNX21 := Lib.hid hNX21
      have hkX21 := (KeptIn.refl (fun b => b ≠ X21) v410a).setRow (g := X21) (fun h => h rfl) (sgV T.1.i C21 n21 c21 D21 m21 d21).toArray
      replace hNX21 : Blk (v410a.setRow X21 (sgV T.1.i C21 n21 c21 D21 m21 d21).toArray) X21 37 (sgV T.1.i C21 n21 c21 D21 m21 d21).toArray := setRow_heap _ _ _ _ _ _ HNX21.out
      obtain ⟨v410, hv410⟩ : ∃ v, v = (v410a.setRow X21 (sgV T.1.i C21 n21 c21 D21 m21 d21).toArray) := ⟨_, rfl⟩
      have hbB : Below v409.heap.size v409 v410 := by rw [hv410]; exact (Below.setRow hbA (show v409.heap.size ≤ X21 by omega) _)
      rw [← hv410] at hNX21
      have HBX21 := Lib.hid hNX21
      have Hv410a := Lib.hid hv410a
      have Hv410 := Lib.hid hv410
      have HEX21 := Lib.hid hX21
      clear hNX21 hkX21 hv410a hv410 hbA
      have hlX21 : w.heap.size ≤ X21 := by have := HB.out.size; omega
      have hoX21 : w.heap.size < X21 := by have := HW.out.lt; omega
      have hoX8X21 : X8 < X21 := by have := HBX8.out.lt; omega
      clear hX21
      go_upto_region 24 with (first | (refine wpList_alloc0 rfl 37 rfl (sgV 0 none 0 0 none 0 0).toArray _ i37 hi37 hz37 rfl ?_; simp only [Act.put, List.setIfInBounds_toArray, List.set_cons_succ, List.set_cons_zero]; try simp only [World.size_alloc]) | (rw [← Hv410a.out, ← HEX21.out]; refine wpList_store_row rfl 37 (.tmp 21) (.tmp 132) rfl X21 (sgV T.1.i C21 n21 c21 D21 m21 d21).toArray rfl rfl 37 _ HNX21.out (size37 _ rfl) rfl (sg_one _ _ _ _ _ _ _) ?_; rw [← Hv410.out]))
      replace HB := Lib.hid (HB.out.trans (hbB.mono HB.out.size))
      replace Hg := Lib.hid (Hg.out.below hbB)
      replace HW := Lib.hid (HW.out.below hbB HW.out.lt)
      replace Hr := Lib.hid (Hr.out.below hbB)
      replace HBX8 := Lib.hid (HBX8.out.below hbB HBX8.out.lt)
      replace HC := Lib.hid (HC.out.below hbB)
      replace HD := Lib.hid (HD.out.below hbB)
      replace Hp := Lib.hid (Hp.out.below hbB)
      replace Hset := Lib.hid (Hset.out.below hbB)
      replace HC21 := Lib.hid (HC21.out.below hbB)
      replace HD21 := Lib.hid (HD21.out.below hbB)
      clear hbB
      clear HNX21 HEX21 Hv410a Hv410
      go_upto_region 25 with fail
      have hcon := RParse_any (some ⟨qb, qo, none⟩) L12 c20 Q v410 Hset.out hc20 (by omega)
      rw [← HT.out] at hcon
      have Hcon := Lib.hid hcon
      clear hcon
      refine (Hcon.out).mono ?_
      rintro e v411 ⟨⟨C23, n23, c23, D23, m23, d23, rfl, hnc23, hmd23, hC23, hD23⟩, hb_⟩
      replace HB := Lib.hid (HB.out.trans (hb_.mono HB.out.size))
      replace Hg := Lib.hid (Hg.out.below hb_)
      replace HW := Lib.hid (HW.out.below hb_ HW.out.lt)
      replace Hr := Lib.hid (Hr.out.below hb_)
      replace HBX8 := Lib.hid (HBX8.out.below hb_ HBX8.out.lt)
      replace HC := Lib.hid (HC.out.below hb_)
      replace HD := Lib.hid (HD.out.below hb_)
      replace Hp := Lib.hid (Hp.out.below hb_)
      replace Hset := Lib.hid (Hset.out.below hb_)
      replace HC21 := Lib.hid (HC21.out.below hb_)
      replace HD21 := Lib.hid (HD21.out.below hb_)
      replace HBX21 := Lib.hid (HBX21.out.below hb_ HBX21.out.lt)
      clear hb_
      have HC23 := Lib.hid hC23
      have HD23 := Lib.hid hD23
      clear hC23 hD23 Hcon
      obtain ⟨v412a, hv412a⟩ : ∃ v, v = (v411.alloc (.cells (sgV 0 none 0 0 none 0 0).toArray 37)) := ⟨_, rfl⟩
      obtain ⟨X23, hX23⟩ : ∃ v, v = v411.heap.size := ⟨_, rfl⟩
      have hNX23 : Blk (v411.alloc (.cells (sgV 0 none 0 0 none 0 0).toArray 37)) X23 37 (sgV 0 none 0 0 none 0 0).toArray := by
        have := Blk.new v411 37 (sgV 0 none 0 0 none 0 0).toArray
        skip
        rw [hX23]; exact this
      rw [← hv412a] at hNX23
      have hbA : Below v411.heap.size v411 v412a := by
        rw [hv412a]; exact (Below.refl _ _).alloc (by simp) _
      have HNX23 := Lib.hid hNX23
      have hkX23 := (KeptIn.refl (fun b => b ≠ X23) v412a).setRow (g := X23) (fun h => h rfl) (sgV T.1.i C23 n23 c23 D23 m23 d23).toArray
      replace hNX23 : Blk (v412a.setRow X23 (sgV T.1.i C23 n23 c23 D23 m23 d23).toArray) X23 37 (sgV T.1.i C23 n23 c23 D23 m23 d23).toArray := setRow_heap _ _ _ _ _ _ HNX23.out
      obtain ⟨v412, hv412⟩ : ∃ v, v = (v412a.setRow X23 (sgV T.1.i C23 n23 c23 D23 m23 d23).toArray) := ⟨_, rfl⟩
      have hbB : Below v411.heap.size v411 v412 := by rw [hv412]; exact (Below.setRow hbA (show v411.heap.size ≤ X23 by omega) _)
      rw [← hv412] at hNX23
      have HBX23 := Lib.hid hNX23
      have Hv412a := Lib.hid hv412a
      have Hv412 := Lib.hid hv412
      have HEX23 := Lib.hid hX23
      clear hNX23 hkX23 hv412a hv412 hbA
      have hlX23 : w.heap.size ≤ X23 := by have := HB.out.size; omega
      have hoX23 : w.heap.size < X23 := by have := HW.out.lt; omega
      have hoX8X23 : X8 < X23 := by have := HBX8.out.lt; omega
      have hoX21X23 : X21 < X23 := by have := HBX21.out.lt; omega
      clear hX23
      go_upto_region 25 with (first | (refine wpList_alloc0 rfl 37 rfl (sgV 0 none 0 0 none 0 0).toArray _ i37 hi37 hz37 rfl ?_; simp only [Act.put, List.setIfInBounds_toArray, List.set_cons_succ, List.set_cons_zero]; try simp only [World.size_alloc]) | (rw [← Hv412a.out, ← HEX23.out]; refine wpList_store_row rfl 37 (.tmp 23) (.tmp 137) rfl X23 (sgV T.1.i C23 n23 c23 D23 m23 d23).toArray rfl rfl 37 _ HNX23.out (size37 _ rfl) rfl (sg_one _ _ _ _ _ _ _) ?_; rw [← Hv412.out]))
      replace HB := Lib.hid (HB.out.trans (hbB.mono HB.out.size))
      replace Hg := Lib.hid (Hg.out.below hbB)
      replace HW := Lib.hid (HW.out.below hbB HW.out.lt)
      replace Hr := Lib.hid (Hr.out.below hbB)
      replace HBX8 := Lib.hid (HBX8.out.below hbB HBX8.out.lt)
      replace HC := Lib.hid (HC.out.below hbB)
      replace HD := Lib.hid (HD.out.below hbB)
      replace Hp := Lib.hid (Hp.out.below hbB)
      replace Hset := Lib.hid (Hset.out.below hbB)
      replace HC21 := Lib.hid (HC21.out.below hbB)
      replace HD21 := Lib.hid (HD21.out.below hbB)
      replace HBX21 := Lib.hid (HBX21.out.below hbB HBX21.out.lt)
      replace HC23 := Lib.hid (HC23.out.below hbB)
      replace HD23 := Lib.hid (HD23.out.below hbB)
      clear hbB
      clear HNX23 HEX23 Hv412a Hv412
      clear HC23 HD23 HBX23
      go_upto_region 26 with fail
      refine (Limited_any A len cap 100 bs2 v412 Hr.out hlc (by omega)).mono ?_
      rintro e v413 ⟨⟨len', rfl, hl1, hl2, hr'⟩, hw'⟩
      subst hw'
      obtain ⟨B, hB⟩ : ∃ B, B = bs2.take 100 := ⟨_, rfl⟩
      rw [← hB] at hr'
      have Hb := Lib.hid hr'
      have HBl := Lib.hid (show len' ≤ bs2.length by have := hr'.len1; rw [hB, List.length_take] at this; omega)
      clear hr' hB
      clear Hr
      go_upto_region 26 with fail
      have hpar_ : parS B = (sg0, 3) := par_bad (par_short (by have := Hb.out.len1; omega))
      have hcon := Parse_any A (len') cap (B) v413 Hb.out hl1 (by omega)
      rw [hpar_] at hcon
      have Hcon := Lib.hid hcon
      clear hcon hpar_
      refine (Hcon.out).mono ?_
      rintro e v414 ⟨⟨C25, n25, c25, D25, m25, d25, rfl, hnc25, hmd25, hC25, hD25⟩, hb_⟩
      replace HB := Lib.hid (HB.out.trans (hb_.mono HB.out.size))
      replace Hg := Lib.hid (Hg.out.below hb_)
      replace HW := Lib.hid (HW.out.below hb_ HW.out.lt)
      replace HBX8 := Lib.hid (HBX8.out.below hb_ HBX8.out.lt)
      replace HC := Lib.hid (HC.out.below hb_)
      replace HD := Lib.hid (HD.out.below hb_)
      replace Hp := Lib.hid (Hp.out.below hb_)
      replace Hset := Lib.hid (Hset.out.below hb_)
      replace HC21 := Lib.hid (HC21.out.below hb_)
      replace HD21 := Lib.hid (HD21.out.below hb_)
      replace HBX21 := Lib.hid (HBX21.out.below hb_ HBX21.out.lt)
      replace Hb := Lib.hid (Hb.out.below hb_)
      clear hb_
      have HC25 := Lib.hid hC25
      have HD25 := Lib.hid hD25
      clear hC25 hD25 Hcon
      dsimp only [sg0]
      obtain ⟨v415a, hv415a⟩ : ∃ v, v = (v414.alloc (.cells (sgV 0 none 0 0 none 0 0).toArray 37)) := ⟨_, rfl⟩
      obtain ⟨X25, hX25⟩ : ∃ v, v = v414.heap.size := ⟨_, rfl⟩
      have hNX25 : Blk (v414.alloc (.cells (sgV 0 none 0 0 none 0 0).toArray 37)) X25 37 (sgV 0 none 0 0 none 0 0).toArray := by
        have := Blk.new v414 37 (sgV 0 none 0 0 none 0 0).toArray
        skip
        rw [hX25]; exact this
      rw [← hv415a] at hNX25
      have hbA : Below v414.heap.size v414 v415a := by
        rw [hv415a]; exact (Below.refl _ _).alloc (by simp) _
      have HNX25 := Lib.hid hNX25
      have hkX25 := (KeptIn.refl (fun b => b ≠ X25) v415a).setRow (g := X25) (fun h => h rfl) (sgV 0 C25 n25 c25 D25 m25 d25).toArray
      replace hNX25 : Blk (v415a.setRow X25 (sgV 0 C25 n25 c25 D25 m25 d25).toArray) X25 37 (sgV 0 C25 n25 c25 D25 m25 d25).toArray := setRow_heap _ _ _ _ _ _ HNX25.out
      obtain ⟨v415, hv415⟩ : ∃ v, v = (v415a.setRow X25 (sgV 0 C25 n25 c25 D25 m25 d25).toArray) := ⟨_, rfl⟩
      have hbB : Below v414.heap.size v414 v415 := by rw [hv415]; exact (Below.setRow hbA (show v414.heap.size ≤ X25 by omega) _)
      rw [← hv415] at hNX25
      have HBX25 := Lib.hid hNX25
      have Hv415a := Lib.hid hv415a
      have Hv415 := Lib.hid hv415
      have HEX25 := Lib.hid hX25
      clear hNX25 hkX25 hv415a hv415 hbA
      have hlX25 : w.heap.size ≤ X25 := by have := HB.out.size; omega
      have hoX25 : w.heap.size < X25 := by have := HW.out.lt; omega
      have hoX8X25 : X8 < X25 := by have := HBX8.out.lt; omega
      have hoX21X25 : X21 < X25 := by have := HBX21.out.lt; omega
      clear hX25
      go_upto_region 26 with (first | (refine wpList_alloc0 rfl 37 rfl (sgV 0 none 0 0 none 0 0).toArray _ i37 hi37 hz37 rfl ?_; simp only [Act.put, List.setIfInBounds_toArray, List.set_cons_succ, List.set_cons_zero]; try simp only [World.size_alloc]) | (rw [← Hv415a.out, ← HEX25.out]; refine wpList_store_row rfl 37 (.tmp 25) (.tmp 143) rfl X25 (sgV 0 C25 n25 c25 D25 m25 d25).toArray rfl rfl 37 _ HNX25.out (size37 _ rfl) rfl (sg_one _ _ _ _ _ _ _) ?_; rw [← Hv415.out]))
      replace HB := Lib.hid (HB.out.trans (hbB.mono HB.out.size))
      replace Hg := Lib.hid (Hg.out.below hbB)
      replace HW := Lib.hid (HW.out.below hbB HW.out.lt)
      replace HBX8 := Lib.hid (HBX8.out.below hbB HBX8.out.lt)
      replace HC := Lib.hid (HC.out.below hbB)
      replace HD := Lib.hid (HD.out.below hbB)
      replace Hp := Lib.hid (Hp.out.below hbB)
      replace Hset := Lib.hid (Hset.out.below hbB)
      replace HC21 := Lib.hid (HC21.out.below hbB)
      replace HD21 := Lib.hid (HD21.out.below hbB)
      replace HBX21 := Lib.hid (HBX21.out.below hbB HBX21.out.lt)
      replace Hb := Lib.hid (Hb.out.below hbB)
      replace HC25 := Lib.hid (HC25.out.below hbB)
      replace HD25 := Lib.hid (HD25.out.below hbB)
      clear hbB
      clear HNX25 HEX25 Hv415a Hv415
      have l25 := HC25.out.1.lenf sumC_len (by omega)
      have k25 := HD25.out.1.lenf sumC_len (by omega)
      dsimp only [sg0, List.length_nil] at l25 k25
      have hC25 := HC25.out.1
      have hD25 := HD25.out.1
      dsimp only [sg0] at hC25 hD25
      have H25C := Lib.hid hC25
      have H25D := Lib.hid hD25
      have b25 : n25 ≤ 1000 := by omega
      have b25' : m25 ≤ 1000 := by omega
      clear hC25 hD25 l25 k25
      clear HC25 HD25
      have l21 := HC21.out.1.lenf sumC_len (by omega)
      have k21 := HD21.out.1.lenf sumC_len (by omega)
      by_cases hq : formP Q = true
      · skip
        have hT2 : T.2 = 0 := by rw [HT.out]; unfold parS; rw [if_pos hq]
        have HU := Lib.hid (show bytS T.1 = Q by rw [HT.out]; exact byt_par hq)
        have hl1 : T.1.ch.length ≤ 67 := by rw [HT.out]; unfold parS; rw [if_pos hq]; dsimp only; rw [sumsAt_len]; exact Nat.le_refl _
        have hl2 : T.1.pa.length ≤ 255 := by have := (Q.getD 1 0).toNat_lt; rw [HT.out]; unfold parS; rw [if_pos hq]; dsimp only; rw [sumsAt_len]; omega
        refine wp_region_flowF [145, 146, 147, 148, 149, 150, 151, 152, 153, 154, 155, 156, 157, 158, 159, 160, 161, 162, 163, 164] [(Spec.is (.int .i64 T.2), false), (Spec.is (.bool true), false), (Spec.is (.bool true), false), (Spec.is (.agg (sgV T.1.i C21 n21 c21 D21 m21 d21).toArray), false), (spSl Q, false), (Spec.is (.string (str Q)), false), (Spec.is (.slice (some ⟨qb, qo, none⟩) L12 c20), false), (Spec.is (.string (str Q)), false), (Spec.is (.bool false), false), (Spec.is (.bool false), false), (Spec.is (.bool false), false), (Spec.is (.int .i64 T.2), false), (Spec.is (.bool false), false), (Spec.is (.bool false), false), (Spec.any, false), (Spec.any, false), (Spec.any, false), (Spec.any, false), (Spec.is (.bool false), false), (Spec.is (.bool false), false)] 188 (by kernel_rfl) rfl (by decide) rfl (by decide) (by kernel_rfl) ?_ ?_
        · refine ⟨?_, ?_, ?_, ?_, ?_, ?_, ?_, ?_, ?_, ?_, ?_, ?_, ?_, ?_, ?_, ?_, ?_, ?_, ?_, ?_, trivial⟩
          · intro a W hE hb hs
            have h22 : a.eval (.tmp 22) = .int .i64 T.2 := hb 22 (by decide)
            refine flow0 rfl ?_
            exact val_move _ rfl _ h22 ⟨rfl, trivial⟩
          · intro a W hE hb hs
            have h145 : a.eval (.tmp 145) = .int .i64 T.2 := hs 0 (by decide)
            refine flow0 rfl ?_
            intro K hK
            unfold Oper.wp execOp
            simp only [h145, BigFrame.eval_const]
            simp [go_sem, hT2]
            exact hK _ _ ⟨Below.refl _ _, rfl, trivial⟩
          · intro a W hE hb hs
            have h146 : a.eval (.tmp 146) = .bool true := hs 1 (by decide)
            refine flow0 rfl ?_
            exact val_move _ rfl _ h146 ⟨rfl, trivial⟩
          · intro a W hE hb hs
            have h21 : a.eval (.tmp 21) = .pointer (some ⟨X21, 0, none⟩) := hb 21 (by decide)
            have h147 : a.eval (.tmp 147) = .bool true := hs 2 (by decide)
            refine flowY rfl rfl h147 ?_
            exact val_load_row 37 _ rfl X21 0 h21 (sgV T.1.i C21 n21 c21 D21 m21 d21) d37 (Blk.range (HBX21.out.below (ext_below hE) HBX21.out.lt)) hd37 hrow37 (by rw [sgV_len]; kernel_rfl) ⟨rfl, trivial⟩
          · intro a W hE hb hs
            have h148 : a.eval (.tmp 148) = .agg (sgV T.1.i C21 n21 c21 D21 m21 d21).toArray := hs 3 (by decide)
            have h147 : a.eval (.tmp 147) = .bool true := hs 2 (by decide)
            refine flowY rfl rfl h147 ?_
            exact val_call 31 _ _ rfl (by kernel_rfl) [.agg (sgV T.1.i C21 n21 c21 D21 m21 d21).toArray] (by show [a.eval (.tmp 148)] = _; rw [h148]) ((Bytes_any T.1.i C21 D21 n21 c21 m21 d21 T.1.ch T.1.pa W (HC21.out.below (ext_below hE)).1 (HD21.out.below (ext_below hE)).1 (by omega) (by omega)).mono (by rintro e W' ⟨⟨A', c', rfl, _, hr⟩, hb⟩; exact ⟨_, rfl, hb, ⟨A', _, c', rfl, by rw [← HU.out]; exact hr⟩, trivial⟩))
          · intro a W hE hb hs
            have h149 : ∃ (A : Option Addr) (n c : Nat), (a.eval (.tmp 149)) = .slice A n c ∧ Rd W 1 A n (Q.map byteV) := hs 4 (by decide)
            have h147 : a.eval (.tmp 147) = .bool true := hs 2 (by decide)
            refine flowY rfl rfl h147 ?_
            obtain ⟨A', n', c', e149, hr149⟩ := h149
            have hcv := convert_bytes A' n' c' Q W hr149
            intro K hK
            unfold Oper.wp execOp
            simp only [e149]
            simp [go_sem, hcv]
            exact hK _ _ ⟨Below.refl _ _, rfl, trivial⟩
          · intro a W hE hb hs
            have h20 : a.eval (.tmp 20) = .slice (some ⟨qb, qo, none⟩) L12 c20 := hb 20 (by decide)
            have h147 : a.eval (.tmp 147) = .bool true := hs 2 (by decide)
            refine flowY rfl rfl h147 ?_
            exact val_move _ rfl _ h20 ⟨rfl, trivial⟩
          · intro a W hE hb hs
            have h151 : a.eval (.tmp 151) = .slice (some ⟨qb, qo, none⟩) L12 c20 := hs 6 (by decide)
            have h147 : a.eval (.tmp 147) = .bool true := hs 2 (by decide)
            refine flowY rfl rfl h147 ?_
            have hcv := convert_bytes (some ⟨qb, qo, none⟩) L12 c20 Q W (Hset.out.below (ext_below hE))
            intro K hK
            unfold Oper.wp execOp
            simp only [h151]
            simp [go_sem, hcv]
            exact hK _ _ ⟨Below.refl _ _, rfl, trivial⟩
          · intro a W hE hb hs
            have h150 : a.eval (.tmp 150) = .string (str Q) := hs 5 (by decide)
            have h152 : a.eval (.tmp 152) = .string (str Q) := hs 7 (by decide)
            have h147 : a.eval (.tmp 147) = .bool true := hs 2 (by decide)
            refine flowY rfl rfl h147 ?_
            intro K hK
            unfold Oper.wp execOp
            simp only [h150, h152, BigFrame.eval_const]
            simp [go_sem]
            exact hK _ _ ⟨Below.refl _ _, rfl, trivial⟩
          · intro a W hE hb hs
            have h147 : a.eval (.tmp 147) = .bool true := hs 2 (by decide)
            have h153 : a.eval (.tmp 153) = .bool false := hs 8 (by decide)
            refine flow0 rfl ?_
            exact val_pick _ _ _ rfl true h147 _ (by rw [if_pos rfl]; exact h153) ⟨rfl, trivial⟩
          · intro a W hE hb hs
            have h154 : a.eval (.tmp 154) = .bool false := hs 9 (by decide)
            refine flow0 rfl ?_
            exact val_move _ rfl _ h154 ⟨rfl, trivial⟩
          · intro a W hE hb hs
            have h22 : a.eval (.tmp 22) = .int .i64 T.2 := hb 22 (by decide)
            have h155 : a.eval (.tmp 155) = .bool false := hs 10 (by decide)
            refine flowY rfl rfl h155 ?_
            exact val_move _ rfl _ h22 ⟨rfl, trivial⟩
          · intro a W hE hb hs
            have h156 : a.eval (.tmp 156) = .int .i64 T.2 := hs 11 (by decide)
            have h155 : a.eval (.tmp 155) = .bool false := hs 10 (by decide)
            refine flowY rfl rfl h155 ?_
            intro K hK
            unfold Oper.wp execOp
            simp only [h156, BigFrame.eval_const]
            simp [go_sem, hT2]
            exact hK _ _ ⟨Below.refl _ _, rfl, trivial⟩
          · intro a W hE hb hs
            have h157 : a.eval (.tmp 157) = .bool false := hs 12 (by decide)
            have h155 : a.eval (.tmp 155) = .bool false := hs 10 (by decide)
            refine flowY rfl rfl h155 ?_
            exact val_move _ rfl _ h157 ⟨rfl, trivial⟩
          · intro a W hE hb hs
            have h158 : a.eval (.tmp 158) = .bool false := hs 13 (by decide)
            exact flowN rfl rfl h158 (by decide) ⟨trivial, rfl⟩
          · intro a W hE hb hs
            have h158 : a.eval (.tmp 158) = .bool false := hs 13 (by decide)
            exact flowN rfl rfl h158 (by decide) ⟨trivial, rfl⟩
          · intro a W hE hb hs
            have h158 : a.eval (.tmp 158) = .bool false := hs 13 (by decide)
            exact flowN rfl rfl h158 (by decide) ⟨trivial, rfl⟩
          · intro a W hE hb hs
            have h158 : a.eval (.tmp 158) = .bool false := hs 13 (by decide)
            exact flowN rfl rfl h158 (by decide) ⟨trivial, rfl⟩
          · intro a W hE hb hs
            have h158 : a.eval (.tmp 158) = .bool false := hs 13 (by decide)
            have h155 : a.eval (.tmp 155) = .bool false := hs 10 (by decide)
            refine flowY rfl rfl h155 ?_
            exact val_pick _ _ _ rfl false h158 _ (by rw [if_neg (by decide)]; rfl) ⟨rfl, trivial⟩
          · intro a W hE hb hs
            have h155 : a.eval (.tmp 155) = .bool false := hs 10 (by decide)
            have h163 : a.eval (.tmp 163) = .bool false := hs 18 (by decide)
            refine flow0 rfl ?_
            exact val_pick _ _ _ rfl false h155 _ (by rw [if_neg (by decide)]; exact h163) ⟨rfl, trivial⟩
        intro f W hb hT hp hd
        have e164 : f 164 = .bool false := hT 19 (by decide)
        simp only [putV, List.foldl_cons, List.foldl_nil, Act.put, List.setIfInBounds_toArray, List.set_cons_succ, List.set_cons_zero, Exit.then]
        rw [e164]
        replace HB := Lib.hid (HB.out.trans (hb.mono HB.out.size))
        replace Hg := Lib.hid (Hg.out.below hb)
        replace HW := Lib.hid (HW.out.below hb HW.out.lt)
        replace HBX8 := Lib.hid (HBX8.out.below hb HBX8.out.lt)
        replace HC := Lib.hid (HC.out.below hb)
        replace HD := Lib.hid (HD.out.below hb)
        replace Hp := Lib.hid (Hp.out.below hb)
        replace Hset := Lib.hid (Hset.out.below hb)
        replace HC21 := Lib.hid (HC21.out.below hb)
        replace HD21 := Lib.hid (HD21.out.below hb)
        replace HBX21 := Lib.hid (HBX21.out.below hb HBX21.out.lt)
        replace Hb := Lib.hid (Hb.out.below hb)
        replace HBX25 := Lib.hid (HBX25.out.below hb HBX25.out.lt)
        replace H25C := Lib.hid (H25C.out.below hb)
        replace H25D := Lib.hid (H25D.out.below hb)
        clear hb hT hp hd e164 hT2
        have Hs25 := Lib.hid (Blk.range HBX25.out)
        go_wp2_with (first | (refine wpList_load_mid_g (by first | rfl | simp [Region.wanted, yielded]) 37 (.tmp 25) rfl X25 0 rfl (sgV 0 C25 n25 c25 D25 m25 d25) d37 Hs25.out hd37 hrow37 (by rw [sgV_len]; kernel_rfl) ?_) | (refine wpList_buildN_g (by first | rfl | simp [Region.wanted, yielded]) 37 _ rfl [] rfl _ built37z ?_))
        refine (Same16_any 0 0 C25 D25 none none n25 c25 m25 d25 0 0 0 0 [] [] [] [] W H25C.out H25D.out (rd_nil _) (rd_nil _) (by omega) (by omega) (by omega) (by omega)).mono ?_
        rintro e v416 ⟨rfl, hb_⟩
        replace HB := Lib.hid (HB.out.trans (hb_.mono HB.out.size))
        replace Hg := Lib.hid (Hg.out.below hb_)
        replace HW := Lib.hid (HW.out.below hb_ HW.out.lt)
        replace HBX8 := Lib.hid (HBX8.out.below hb_ HBX8.out.lt)
        replace HC := Lib.hid (HC.out.below hb_)
        replace HD := Lib.hid (HD.out.below hb_)
        replace Hp := Lib.hid (Hp.out.below hb_)
        replace Hset := Lib.hid (Hset.out.below hb_)
        replace HC21 := Lib.hid (HC21.out.below hb_)
        replace HD21 := Lib.hid (HD21.out.below hb_)
        replace HBX21 := Lib.hid (HBX21.out.below hb_ HBX21.out.lt)
        replace Hb := Lib.hid (Hb.out.below hb_)
        replace HBX25 := Lib.hid (HBX25.out.below hb_ HBX25.out.lt)
        replace H25C := Lib.hid (H25C.out.below hb_)
        replace H25D := Lib.hid (H25D.out.below hb_)
        clear hb_
        rw [decide_eq_true ⟨rfl, rfl, rfl⟩]
        go_wp2_with fail
        go_ret
        exact ⟨rfl, HB.out⟩
      · skip
        have hq' : formP Q = false := by simpa using hq
        have hTT : T = (sg0, 3) := by rw [HT.out]; exact par_bad hq'
        have hT2 : T.2 = 3 := by rw [hTT]
        have HU0 := Lib.hid (show T.1.i = 0 ∧ T.1.ch = [] ∧ T.1.pa = [] by rw [hTT]; exact ⟨rfl, rfl, rfl⟩)
        have hl1 : T.1.ch.length ≤ 67 := by rw [HU0.out.2.1]; exact Nat.zero_le _
        have hl2 : T.1.pa.length ≤ 255 := by rw [HU0.out.2.2]; exact Nat.zero_le _
        clear hTT hq'
        refine wp_region_flowF [145, 146, 147, 148, 149, 150, 151, 152, 153, 154, 155, 156, 157, 158, 159, 160, 161, 162, 163, 164] [(Spec.is (.int .i64 T.2), false), (Spec.is (.bool false), false), (Spec.is (.bool false), false), (Spec.any, false), (Spec.any, false), (Spec.any, false), (Spec.any, false), (Spec.any, false), (Spec.any, false), (Spec.is (.bool false), false), (Spec.is (.bool false), false), (Spec.is (.int .i64 T.2), false), (Spec.is (.bool true), false), (Spec.is (.bool true), false), (Spec.is (.agg (sgV T.1.i C21 n21 c21 D21 m21 d21).toArray), false), (Spec.is (.agg (sgV 0 none 0 0 none 0 0).toArray), false), (Spec.is (.bool true), false), (Spec.is (.bool false), false), (Spec.is (.bool false), false), (Spec.is (.bool false), false)] 188 (by kernel_rfl) rfl (by decide) rfl (by decide) (by kernel_rfl) ?_ ?_
        · refine ⟨?_, ?_, ?_, ?_, ?_, ?_, ?_, ?_, ?_, ?_, ?_, ?_, ?_, ?_, ?_, ?_, ?_, ?_, ?_, ?_, trivial⟩
          · intro a W hE hb hs
            have h22 : a.eval (.tmp 22) = .int .i64 T.2 := hb 22 (by decide)
            refine flow0 rfl ?_
            exact val_move _ rfl _ h22 ⟨rfl, trivial⟩
          · intro a W hE hb hs
            have h145 : a.eval (.tmp 145) = .int .i64 T.2 := hs 0 (by decide)
            refine flow0 rfl ?_
            intro K hK
            unfold Oper.wp execOp
            simp only [h145, BigFrame.eval_const]
            simp [go_sem, hT2]
            exact hK _ _ ⟨Below.refl _ _, rfl, trivial⟩
          · intro a W hE hb hs
            have h146 : a.eval (.tmp 146) = .bool false := hs 1 (by decide)
            refine flow0 rfl ?_
            exact val_move _ rfl _ h146 ⟨rfl, trivial⟩
          · intro a W hE hb hs
            have h147 : a.eval (.tmp 147) = .bool false := hs 2 (by decide)
            exact flowN rfl rfl h147 (by decide) ⟨trivial, rfl⟩
          · intro a W hE hb hs
            have h147 : a.eval (.tmp 147) = .bool false := hs 2 (by decide)
            exact flowN rfl rfl h147 (by decide) ⟨trivial, rfl⟩
          · intro a W hE hb hs
            have h147 : a.eval (.tmp 147) = .bool false := hs 2 (by decide)
            exact flowN rfl rfl h147 (by decide) ⟨trivial, rfl⟩
          · intro a W hE hb hs
            have h147 : a.eval (.tmp 147) = .bool false := hs 2 (by decide)
            exact flowN rfl rfl h147 (by decide) ⟨trivial, rfl⟩
          · intro a W hE hb hs
            have h147 : a.eval (.tmp 147) = .bool false := hs 2 (by decide)
            exact flowN rfl rfl h147 (by decide) ⟨trivial, rfl⟩
          · intro a W hE hb hs
            have h147 : a.eval (.tmp 147) = .bool false := hs 2 (by decide)
            exact flowN rfl rfl h147 (by decide) ⟨trivial, rfl⟩
          · intro a W hE hb hs
            have h147 : a.eval (.tmp 147) = .bool false := hs 2 (by decide)
            refine flow0 rfl ?_
            exact val_pick _ _ _ rfl false h147 _ (by rw [if_neg (by decide)]; rfl) ⟨rfl, trivial⟩
          · intro a W hE hb hs
            have h154 : a.eval (.tmp 154) = .bool false := hs 9 (by decide)
            refine flow0 rfl ?_
            exact val_move _ rfl _ h154 ⟨rfl, trivial⟩
          · intro a W hE hb hs
            have h22 : a.eval (.tmp 22) = .int .i64 T.2 := hb 22 (by decide)
            have h155 : a.eval (.tmp 155) = .bool false := hs 10 (by decide)
            refine flowY rfl rfl h155 ?_
            exact val_move _ rfl _ h22 ⟨rfl, trivial⟩
          · intro a W hE hb hs
            have h156 : a.eval (.tmp 156) = .int .i64 T.2 := hs 11 (by decide)
            have h155 : a.eval (.tmp 155) = .bool false := hs 10 (by decide)
            refine flowY rfl rfl h155 ?_
            intro K hK
            unfold Oper.wp execOp
            simp only [h156, BigFrame.eval_const]
            simp [go_sem, hT2]
            exact hK _ _ ⟨Below.refl _ _, rfl, trivial⟩
          · intro a W hE hb hs
            have h157 : a.eval (.tmp 157) = .bool true := hs 12 (by decide)
            have h155 : a.eval (.tmp 155) = .bool false := hs 10 (by decide)
            refine flowY rfl rfl h155 ?_
            exact val_move _ rfl _ h157 ⟨rfl, trivial⟩
          · intro a W hE hb hs
            have h21 : a.eval (.tmp 21) = .pointer (some ⟨X21, 0, none⟩) := hb 21 (by decide)
            have h158 : a.eval (.tmp 158) = .bool true := hs 13 (by decide)
            refine flowY rfl rfl h158 ?_
            exact val_load_row 37 _ rfl X21 0 h21 (sgV T.1.i C21 n21 c21 D21 m21 d21) d37 (Blk.range (HBX21.out.below (ext_below hE) HBX21.out.lt)) hd37 hrow37 (by rw [sgV_len]; kernel_rfl) ⟨rfl, trivial⟩
          · intro a W hE hb hs
            have h158 : a.eval (.tmp 158) = .bool true := hs 13 (by decide)
            refine flowY rfl rfl h158 ?_
            exact val_build 37 _ rfl [] (by show [] = _; rw []) _ (built37z) ⟨rfl, trivial⟩
          · intro a W hE hb hs
            have h159 : a.eval (.tmp 159) = .agg (sgV T.1.i C21 n21 c21 D21 m21 d21).toArray := hs 14 (by decide)
            have h160 : a.eval (.tmp 160) = .agg (sgV 0 none 0 0 none 0 0).toArray := hs 15 (by decide)
            have h158 : a.eval (.tmp 158) = .bool true := hs 13 (by decide)
            refine flowY rfl rfl h158 ?_
            exact val_call 21 _ _ rfl (by kernel_rfl) [.agg (sgV T.1.i C21 n21 c21 D21 m21 d21).toArray, .agg (sgV 0 none 0 0 none 0 0).toArray] (by show [a.eval (.tmp 159), a.eval (.tmp 160)] = _; rw [h159, h160]) ((Same16_any T.1.i 0 C21 D21 none none n21 c21 m21 d21 0 0 0 0 T.1.ch T.1.pa [] [] W (HC21.out.below (ext_below hE)).1 (HD21.out.below (ext_below hE)).1 (rd_nil _) (rd_nil _) (by omega) (by omega) (by omega) (by omega)).mono (by rw [decide_eq_true HU0.out]; rintro e W' ⟨rfl, hb⟩; exact ⟨_, rfl, hb, rfl, trivial⟩))
          · intro a W hE hb hs
            have h161 : a.eval (.tmp 161) = .bool true := hs 16 (by decide)
            have h158 : a.eval (.tmp 158) = .bool true := hs 13 (by decide)
            refine flowY rfl rfl h158 ?_
            exact val_not _ _ rfl _ h161 ⟨rfl, trivial⟩
          · intro a W hE hb hs
            have h158 : a.eval (.tmp 158) = .bool true := hs 13 (by decide)
            have h162 : a.eval (.tmp 162) = .bool false := hs 17 (by decide)
            have h155 : a.eval (.tmp 155) = .bool false := hs 10 (by decide)
            refine flowY rfl rfl h155 ?_
            exact val_pick _ _ _ rfl true h158 _ (by rw [if_pos rfl]; exact h162) ⟨rfl, trivial⟩
          · intro a W hE hb hs
            have h155 : a.eval (.tmp 155) = .bool false := hs 10 (by decide)
            have h163 : a.eval (.tmp 163) = .bool false := hs 18 (by decide)
            refine flow0 rfl ?_
            exact val_pick _ _ _ rfl false h155 _ (by rw [if_neg (by decide)]; exact h163) ⟨rfl, trivial⟩
        intro f W hb hT hp hd
        have e164 : f 164 = .bool false := hT 19 (by decide)
        simp only [putV, List.foldl_cons, List.foldl_nil, Act.put, List.setIfInBounds_toArray, List.set_cons_succ, List.set_cons_zero, Exit.then]
        rw [e164]
        replace HB := Lib.hid (HB.out.trans (hb.mono HB.out.size))
        replace Hg := Lib.hid (Hg.out.below hb)
        replace HW := Lib.hid (HW.out.below hb HW.out.lt)
        replace HBX8 := Lib.hid (HBX8.out.below hb HBX8.out.lt)
        replace HC := Lib.hid (HC.out.below hb)
        replace HD := Lib.hid (HD.out.below hb)
        replace Hp := Lib.hid (Hp.out.below hb)
        replace Hset := Lib.hid (Hset.out.below hb)
        replace HC21 := Lib.hid (HC21.out.below hb)
        replace HD21 := Lib.hid (HD21.out.below hb)
        replace HBX21 := Lib.hid (HBX21.out.below hb HBX21.out.lt)
        replace Hb := Lib.hid (Hb.out.below hb)
        replace HBX25 := Lib.hid (HBX25.out.below hb HBX25.out.lt)
        replace H25C := Lib.hid (H25C.out.below hb)
        replace H25D := Lib.hid (H25D.out.below hb)
        clear hb hT hp hd e164 hT2
        have Hs25 := Lib.hid (Blk.range HBX25.out)
        go_wp2_with (first | (refine wpList_load_mid_g (by first | rfl | simp [Region.wanted, yielded]) 37 (.tmp 25) rfl X25 0 rfl (sgV 0 C25 n25 c25 D25 m25 d25) d37 Hs25.out hd37 hrow37 (by rw [sgV_len]; kernel_rfl) ?_) | (refine wpList_buildN_g (by first | rfl | simp [Region.wanted, yielded]) 37 _ rfl [] rfl _ built37z ?_))
        refine (Same16_any 0 0 C25 D25 none none n25 c25 m25 d25 0 0 0 0 [] [] [] [] W H25C.out H25D.out (rd_nil _) (rd_nil _) (by omega) (by omega) (by omega) (by omega)).mono ?_
        rintro e v416 ⟨rfl, hb_⟩
        replace HB := Lib.hid (HB.out.trans (hb_.mono HB.out.size))
        replace Hg := Lib.hid (Hg.out.below hb_)
        replace HW := Lib.hid (HW.out.below hb_ HW.out.lt)
        replace HBX8 := Lib.hid (HBX8.out.below hb_ HBX8.out.lt)
        replace HC := Lib.hid (HC.out.below hb_)
        replace HD := Lib.hid (HD.out.below hb_)
        replace Hp := Lib.hid (Hp.out.below hb_)
        replace Hset := Lib.hid (Hset.out.below hb_)
        replace HC21 := Lib.hid (HC21.out.below hb_)
        replace HD21 := Lib.hid (HD21.out.below hb_)
        replace HBX21 := Lib.hid (HBX21.out.below hb_ HBX21.out.lt)
        replace Hb := Lib.hid (Hb.out.below hb_)
        replace HBX25 := Lib.hid (HBX25.out.below hb_ HBX25.out.lt)
        replace H25C := Lib.hid (H25C.out.below hb_)
        replace H25D := Lib.hid (H25D.out.below hb_)
        clear hb_
        rw [decide_eq_true ⟨rfl, rfl, rfl⟩]
        go_wp2_with fail
        go_ret
        exact ⟨rfl, HB.out⟩
end Go.Proofs.YtfdhiilhjfbehaaDoor
