/- The parts of the law TopForgedBytesAreRefused: equality of bytes, the release, the fixed example. -/
import Derived.Test.YthlecmmngldodaaDoorF26
namespace Go.Proofs.YthlecmmngldodaaDoor
open Go.RowKit Go.Sort

set_option maxRecDepth 100000 in
set_option maxHeartbeats 1000000 in
theorem R2Same_any (A B : Option Addr) (n m c d : Nat) (xs ys : List UInt8) (w : World) (hx : Rd w 1 A n (xs.map byteV)) (hy : Rd w 1 B m (ys.map byteV)) :
    Calls Tryd.prog 36 #[.slice A n c, .slice B m d] w fun e w' => e = .returned (.bool (decide (xs = ys))) ∧ Below w.heap.size w w' := by
  have hxl := hx.len1
  have hyl := hy.len1
  have hnl := hx.le
  have hml := hy.le
  go_enter Tryd.func36, Tryd.ntmps36
  by_cases hnm : n = m
  · subst hnm
    have Hx := Lib.hid hx
    have Hy := Lib.hid hy
    have Hxl := Lib.hid hxl
    have Hyl := Lib.hid hyl
    clear hx hy hxl hyl
    go_wp2_with fail
    go_loopw [5] (fun v5 wr => ∃ k : Nat, k ≤ n ∧ v5 = .int .i64 (k : Int) ∧ xs.take k = ys.take k ∧ Below w.heap.size w wr) (fun v5 _ => n - (intOf v5).toNat)
    case atStart => exact ⟨0, by omega, rfl, rfl, Below.refl _ _⟩
    case round =>
      obtain ⟨k, hk, rfl, hpre, hB⟩ := hrel
      by_cases hlt : k < n
      · obtain ⟨b, off, x, rfl, hxk, cx⟩ := (Hx.out.below hB).byte_ hlt
        obtain ⟨b', off', y, rfl, hyk, cy⟩ := (Hy.out.below hB).byte_ hlt
        have htk := take_succ_eq hxk hyk
        have HB := Lib.hid hB
        have Hpre := Lib.hid hpre
        by_cases hxy : x = y
        · have Hs := Lib.hid (htk.2 ⟨hpre, hxy⟩)
          subst hxy
          clear hB hpre htk hxk hyk
          go_upto_region 6 with fail
          go_quiet (fail)
          have hBq := below_drewN HB.out nq
          have HBq := Lib.hid hBq
          clear hBq
          generalize wr.drewN nq = wq at *
          go_wp2_with fail
          exact ⟨⟨k + 1, by omega, by go_num, Hs.out, HBq.out⟩, by simp [intOf]; omega⟩
        · have hne : xs ≠ ys := fun e => hxy (by rw [e, hyk] at hxk; exact (Option.some.inj hxk).symm)
          have Hv := Lib.hid (decide_eq_false hne)
          have hxyn : x.toNat ≠ y.toNat := fun e => hxy (UInt8.toNat_inj.1 e)
          have hd : ((x.toNat : Int) == (y.toNat : Int)) = false := by rw [beq_eq_false_iff_ne]; omega
          have hd2 : ((x.toNat : Int) != (y.toNat : Int)) = true := by rw [bne, hd]; rfl
          clear hB hpre htk hxk hyk hne hxyn
          go_upto_region 6 with fail
          go_quiet (fail)
          have hBq := below_drewN HB.out nq
          have HBq := Lib.hid hBq
          clear hBq
          generalize wr.drewN nq = wq at *
          go_wp2_with fail
          go_ret
          exact ⟨by rw [Hv.out]; rfl, HBq.out⟩
      · have he : xs = ys := by
          rw [List.take_of_length_le (by have := Hxl.out; omega), List.take_of_length_le (by have := Hyl.out; omega)] at hpre
          exact hpre
        have Hv := Lib.hid (decide_eq_true he)
        have HB := Lib.hid hB
        clear hpre he hB
        go_wp2_with fail
        go_ret
        exact ⟨by rw [Hv.out]; rfl, HB.out⟩
  · have hne : xs ≠ ys := fun e => hnm (by rw [← hxl, ← hyl, e])
    have Hv := Lib.hid (decide_eq_false hne)
    have hd : ((n : Int) == (m : Int)) = false := by rw [beq_eq_false_iff_ne]; omega
    clear hx hy hxl hyl hne
    go_wp2_with fail
    go_ret
    exact ⟨by rw [Hv.out]; rfl, Below.refl _ _⟩

set_option maxRecDepth 100000 in
theorem builtRel5 (v x s n : Int) (tr : Sum32) : Tryd.prog.built 41 [(0, .int .i64 v), (2, .int .i64 x), (3, .int .i64 s), (5, .int .i64 n), (6, .agg (sumC tr).toArray)] = some (relC v x s n tr).toArray := by
  obtain ⟨l, hl⟩ := tr
  rcases l with _ | ⟨b0, l⟩
  · simp at hl
  rcases l with _ | ⟨b1, l⟩
  · simp at hl
  rcases l with _ | ⟨b2, l⟩
  · simp at hl
  rcases l with _ | ⟨b3, l⟩
  · simp at hl
  rcases l with _ | ⟨b4, l⟩
  · simp at hl
  rcases l with _ | ⟨b5, l⟩
  · simp at hl
  rcases l with _ | ⟨b6, l⟩
  · simp at hl
  rcases l with _ | ⟨b7, l⟩
  · simp at hl
  rcases l with _ | ⟨b8, l⟩
  · simp at hl
  rcases l with _ | ⟨b9, l⟩
  · simp at hl
  rcases l with _ | ⟨b10, l⟩
  · simp at hl
  rcases l with _ | ⟨b11, l⟩
  · simp at hl
  rcases l with _ | ⟨b12, l⟩
  · simp at hl
  rcases l with _ | ⟨b13, l⟩
  · simp at hl
  rcases l with _ | ⟨b14, l⟩
  · simp at hl
  rcases l with _ | ⟨b15, l⟩
  · simp at hl
  rcases l with _ | ⟨b16, l⟩
  · simp at hl
  rcases l with _ | ⟨b17, l⟩
  · simp at hl
  rcases l with _ | ⟨b18, l⟩
  · simp at hl
  rcases l with _ | ⟨b19, l⟩
  · simp at hl
  rcases l with _ | ⟨b20, l⟩
  · simp at hl
  rcases l with _ | ⟨b21, l⟩
  · simp at hl
  rcases l with _ | ⟨b22, l⟩
  · simp at hl
  rcases l with _ | ⟨b23, l⟩
  · simp at hl
  rcases l with _ | ⟨b24, l⟩
  · simp at hl
  rcases l with _ | ⟨b25, l⟩
  · simp at hl
  rcases l with _ | ⟨b26, l⟩
  · simp at hl
  rcases l with _ | ⟨b27, l⟩
  · simp at hl
  rcases l with _ | ⟨b28, l⟩
  · simp at hl
  rcases l with _ | ⟨b29, l⟩
  · simp at hl
  rcases l with _ | ⟨b30, l⟩
  · simp at hl
  rcases l with _ | ⟨b31, l⟩
  · simp at hl
  rcases l with _ | ⟨b32, l⟩
  · kernel_rfl
  · simp at hl
theorem wpList_buildN {P : Program} {ops : Array Oper} {rest : List Oper} {o : Oper} {a : Act} {w : World} {Q : Exit → Act → World → Prop} (hg : o.guard = none) (t : TypeId) (parts : Array (Nat × Operand)) (ho : o.op = .build t parts) (vals : List (Nat × Value)) (hv : parts.toList.map (fun (x : Nat × Operand) => (x.fst, a.eval x.snd)) = vals) (Z : Array Value) (hZ : P.built t vals = some Z)
    (h : wpList P ops Q rest (a.put o.dst (.agg Z)) w) : wpList P ops Q (o :: rest) a w := by
  refine wpList_plain hg fun K hK => ?_
  unfold Oper.wp execOp
  simp only [ho, Sem.run_bind]
  rw [show parts.map (fun (x : Nat × Operand) => (x.fst, a.eval x.snd)) = vals.toArray from by subst hv; obtain ⟨l⟩ := parts; simp only [List.map_toArray], run_build w t _ Z hZ]
  exact hK _ _ h

set_option maxRecDepth 100000 in
set_option maxHeartbeats 1000000 in
theorem release_any (v : Int) (A : Option Addr) (len cap : Nat) (X : List UInt8) (w : World) (hr : Rd w 1 A len (X.map byteV)) (h0 : 0 < len) (hlen : len ≤ 100000) (hcap : len ≤ cap) :
    Calls Tryd.prog 35 #[.int .i64 v, .slice A len cap] w fun e w' => e = .returned (.agg (relC v 100 1 ((len + 1023) / 1024 : Nat) (root (cutL X))).toArray) ∧ Below w.heap.size w w' := by
  obtain ⟨i41, hi41, hz41, hs41, hy41⟩ := info_parts info41
  obtain ⟨d41, hd41, hrow41⟩ := undRel
  have hXl := hr.len1
  obtain ⟨rt, hrt⟩ : ∃ rt, rt = root (cutL X) := ⟨_, rfl⟩
  obtain ⟨m, hm⟩ : ∃ m, m = (len + 1023) / 1024 := ⟨_, rfl⟩
  rw [← hrt, ← hm]
  have Hrt0 := Lib.hid hrt
  have hm4 : m ≤ 1000 := by omega
  have Hm := Lib.hid hm
  clear hrt hm
  go_enter Tryd.func35, Tryd.ntmps35
  go_upto_region 1 with (refine wpList_alloc0 rfl 41 rfl (relC 0 0 0 0 z32).toArray _ i41 hi41 hz41 rfl ?_; simp only [Act.put, List.setIfInBounds_toArray, List.set_cons_succ, List.set_cons_zero])
  obtain ⟨w1, hw1⟩ : ∃ w1, w1 = w.alloc (.cells (relC 0 0 0 0 z32).toArray 41) := ⟨_, rfl⟩
  have hB1 : Below w.heap.size w w1 := by rw [hw1]; exact (Below.refl _ _).alloc (Nat.le_refl _) _
  have hO1 : Blk w1 w.heap.size 41 (relC 0 0 0 0 z32).toArray := by rw [hw1]; exact Blk.new _ _ _
  rw [← hw1]
  clear hw1
  have Hc := Lib.hid (RCut_any A len cap X w1 (hr.below hB1) h0 (by omega) hcap)
  have HB1 := Lib.hid hB1
  have HO1 := Lib.hid hO1
  have HXl := Lib.hid hXl
  have hs1 := hO1.lt
  clear hB1 hO1 hr hXl
  go_wp2_with fail
  refine Hc.out.mono ?_
  rintro e w2 ⟨A2, c2, rfl, hc2, hl2, hb2⟩
  have HO2 := Lib.hid (HO1.out.below hb2 hs1)
  have HB2 := Lib.hid (HB1.out.trans (hb2.mono HB1.out.size))
  rw [← Hm.out] at hl2 hc2 ⊢
  have hcs : ∀ c ∈ cutL X, c.length ≤ 8796093021000 := fun c hc => by
    obtain ⟨k, hk, rfl⟩ := List.mem_iff_getElem.1 hc
    rw [cutL_len] at hk
    have h1 := cutL_get X hk
    rw [List.getElem?_eq_getElem (by rw [cutL_len]; exact hk)] at h1
    rw [Option.some.inj h1, cutAt_len]; omega
  have hrt0 := RRoot_any A2 m c2 (cutL X) w2 hl2 (by omega) hcs
  rw [← Hrt0.out] at hrt0
  have Hrt := Lib.hid hrt0
  clear hb2 Hc hl2 hcs hrt0
  go_wp2_with fail
  refine Hrt.out.mono ?_
  rintro e w3 ⟨rfl, hb3⟩
  have HO3 := Lib.hid (HO2.out.below hb3 HO2.out.lt)
  have HB3 := Lib.hid (HB2.out.trans (hb3.mono HB2.out.size))
  rw [show sumV rt.1 = .agg (sumC rt).toArray from rfl]
  clear hb3 Hrt
  go_wp2_with (first | (refine wpList_buildN rfl 41 _ rfl [(0, .int .i64 v), (2, .int .i64 100), (3, .int .i64 1), (5, .int .i64 (m : Int)), (6, .agg (sumC rt).toArray)] rfl _ (builtRel5 v 100 1 m rt) ?_) | (refine wpList_store_row rfl 41 (.tmp 4) (.tmp 17) rfl w.heap.size (relC v 100 1 m rt).toArray rfl rfl 41 (relC 0 0 0 0 z32).toArray HO3.out (size41 _ (by simp [relC_len])) (by simp [relC_len]) (rel_one _ _ _ _ _) ?_))
  refine bodyPost_ret (results_cell_row rfl _ _ w.heap.size 41 (relC v 100 1 m rt).toArray (0, 0) d41 rfl (setRow_heap _ _ _ _ _ _ HO3.out) hd41 (by cases d41 <;> first | rfl | exact hrow41) (size41 _ (by simp [relC_len]))) rfl ⟨rfl, Below.setRow HB3.out (Nat.le_refl _) _⟩

theorem one_cut : cutL [7] = [[7]] := by decide
theorem one_at : cutAt [7] 0 = [7] := by decide
theorem one_proof (x : Sum32) : proofL [x] 0 = [] := proofF_one _ _ _ (by simp)

set_option maxRecDepth 100000 in
set_option maxHeartbeats 4000000 in
theorem Sanity28_any (w : World) (hg : Globs w) : Calls Tryd.prog 34 #[] w fun e w' => e = .returned (.bool true) ∧ Below w.heap.size w w' := by
  obtain ⟨i35, hi35, hz35, hs35, hy35⟩ := info_parts info35
  obtain ⟨d35, hd35, hrow35⟩ := und35
  obtain ⟨X, hX⟩ : ∃ X : List UInt8, X = [7] := ⟨_, rfl⟩
  obtain ⟨w1, hw1⟩ : ∃ w1, w1 = w.alloc (.cells #[.int .u8 7] 5) := ⟨_, rfl⟩
  have hr1 : Rd w1 1 (some ⟨w.heap.size, 0, none⟩) 1 (X.map byteV) := by rw [hw1, hX]; exact lit_rdE w (byteV 7) 5
  have hb1 : Below w.heap.size w w1 := by rw [hw1]; exact (Below.refl _ _).alloc (Nat.le_refl _) _
  have Hw1 := Lib.hid hw1
  have Hc := Lib.hid (Cut_any (some ⟨w.heap.size, 0, none⟩) 1 1 X w1 hr1 (by omega) (by omega) (by omega))
  have HB := Lib.hid hb1
  have Hg := Lib.hid (hg.below hb1)
  have HX := Lib.hid hX
  clear hg hr1 hb1 hw1 hX
  go_enter Tryd.func34, Tryd.ntmps34
  go_wp2_with fail
  rw [← Hw1.out]
  refine Hc.out.mono ?_
  rintro e w2 ⟨A2, c2, rfl, hc2, hl2, hb2⟩
  have HL2 := Lib.hid hl2
  clear Hc hl2 Hw1
  replace HB := Lib.hid (HB.out.trans (hb2.mono HB.out.size))
  replace Hg := Lib.hid (Hg.out.below hb2)
  clear hb2
  have hcs : ∀ c ∈ cutL X, c.length ≤ 8796093022000 := by rw [HX.out, one_cut]; intro c hc; simp at hc; subst hc; simp
  obtain ⟨tr, htr⟩ : ∃ tr, tr = root (cutL X) := ⟨_, rfl⟩
  have hrt := Root_any A2 1 c2 (cutL X) w2 Hg.out HL2.out (by omega) hcs
  rw [← htr, show sumV tr.1 = .agg (sumC tr).toArray from rfl] at hrt
  have Hrt := Lib.hid hrt
  have Htr := Lib.hid htr
  clear hrt htr hcs HL2
  go_wp2_with fail
  refine Hrt.out.mono ?_
  rintro e w3 ⟨rfl, hb3⟩
  clear Hrt
  replace HB := Lib.hid (HB.out.trans (hb3.mono HB.out.size))
  replace Hg := Lib.hid (Hg.out.below hb3)
  clear hb3
  have Hn := Lib.hid (New_typed (relC 0 0 0 1 tr) 1 tr (relC_n 0 0 0 1 tr) (relC_t 0 0 0 1 tr) (by omega) (by omega) w3)
  go_upto_region 3 with (refine wpList_build2 rfl 41 5 6 (.const (.int .i64 1)) (.tmp 16) rfl _ _ rfl rfl _ (builtRel 1 tr) ?_)
  refine Hn.out.mono ?_
  rintro e w4 ⟨g4, rfl, hk4, hb4⟩
  have HT := Lib.hid (tlst_empty hk4 (by omega))
  clear hk4 Hn
  replace HB := Lib.hid (HB.out.trans (hb4.mono HB.out.size))
  replace Hg := Lib.hid (Hg.out.below hb4)
  clear hb4
  have hn_ : Blk (w4.alloc (.cells (fetchC z32 none 0 0).toArray 35)) w4.heap.size 35 (fetchC z32 none 0 0).toArray := Blk.new _ _ _
  have Hn_ := Lib.hid hn_
  clear hn_
  go_upto_region 3 with (first | (refine wpList_alloc0 rfl 35 rfl (fetchC z32 none 0 0).toArray _ i35 hi35 hz35 rfl ?_; simp only [Act.put, List.setIfInBounds_toArray, List.set_cons_succ, List.set_cons_zero]) | (refine wpList_store_row rfl 35 (.tmp 3) (.tmp 19) rfl w4.heap.size (fetchC tr (some ⟨g4, 0, none⟩) 1 1).toArray rfl rfl 35 (fetchC z32 none 0 0).toArray Hn_.out (size35 _ (by simp [fetchC_len])) (by simp [fetchC_len]) (fetch_one _ _ _ _) ?_))
  obtain ⟨w5, h_⟩ : ∃ v, v = (w4.alloc (.cells (fetchC z32 none 0 0).toArray 35)).setRow w4.heap.size (fetchC tr (some ⟨g4, 0, none⟩) 1 1).toArray := ⟨_, rfl⟩
  have hb_ : Below w4.heap.size w4 w5 := by rw [h_]; exact Below.setRow ((Below.refl _ _).alloc (Nat.le_refl _) _) (Nat.le_refl _) _
  have hF_ : Blk w5 w4.heap.size 35 (fetchC tr (some ⟨g4, 0, none⟩) 1 1).toArray := by rw [h_]; exact setRow_heap _ _ _ _ _ _ Hn_.out
  rw [← h_]
  clear h_ Hn_
  obtain ⟨fb, h_⟩ : ∃ v, v = w4.heap.size := ⟨_, rfl⟩
  rw [← h_] at hF_ ⊢
  have HFfb := Lib.hid hF_
  have Hfb := Lib.hid h_
  clear hF_ h_
  replace HB := Lib.hid (HB.out.trans (hb_.mono HB.out.size))
  replace Hg := Lib.hid (Hg.out.below hb_)
  replace HT := Lib.hid (HT.out.below hb_)
  clear hb_
  obtain ⟨w6, hw6⟩ : ∃ v, v = w5.alloc (.cells #[.int .u8 7] 5) := ⟨_, rfl⟩
  have hr6 : Rd w6 1 (some ⟨w5.heap.size, 0, none⟩) 1 ((cutAt X 0).map byteV) := by rw [hw6, HX.out]; exact lit_rdE w5 (byteV 7) 5
  have hb6 : Below w5.heap.size w5 w6 := by rw [hw6]; exact (Below.refl _ _).alloc (Nat.le_refl _) _
  have hgd : Goodh X (List.replicate 1 []) := by have := good_start X; rw [HX.out] at this ⊢; exact this
  have hk0 : 0 < (X.length + 1023) / 1024 := by rw [HX.out]; decide
  have htk := Take_typed tr (some ⟨g4, 0, none⟩) 1 1 (List.replicate 1 []) ((0 : Nat) : Int) (some ⟨w5.heap.size, 0, none⟩) 1 1 (cutAt X 0) none 0 0 (proofL ((cutL X).map leafS) 0) w6 (Hg.out.below hb6) (HT.out.lst.below hb6) (by omega) hr6 (by omega) (by rw [HX.out, one_cut]; exact Rd.nil _ _ _) (Nat.le_refl _) (by omega)
  have h1 := take_right X hgd hk0
  have h2 := take_step X hgd hk0
  rw [← Htr.out] at h1 h2
  obtain ⟨H, hH⟩ : ∃ v, v = takeH tr (List.replicate 1 []) ((0 : Nat) : Int) (cutAt X 0) (proofL ((cutL X).map leafS) 0) := ⟨_, rfl⟩
  rw [h1, ← hH] at htk
  rw [← hH] at h2
  have hHX : H = cutL X := all_there X h2.1 fun j hj => by
    obtain rfl : j = 0 := by rw [HX.out] at hj; simp at hj; omega
    exact h2.2.1
  have Htk := Lib.hid htk
  have HHX := Lib.hid hHX
  have HT6 := Lib.hid (HT.out.below hb6)
  have HF6 := Lib.hid (HFfb.out.below hb6 HFfb.out.lt)
  have HB6 := Lib.hid (HB.out.trans (hb6.mono HB.out.size))
  clear hr6 hb6 hgd hk0 htk h1 h2 hH hHX HT HB
  go_upto_region 4 with (refine wpList_load_mid rfl 35 (.tmp 3) rfl fb 0 rfl (fetchC tr (some ⟨g4, 0, none⟩) 1 1) _ (fetch_range HFfb.out) hd35 hrow35 (by rw [fetchC_len]; kernel_rfl) ?_)
  rw [← hw6]
  clear hw6 HFfb
  refine Htk.out.mono ?_
  rintro e w7 ⟨A7, c7, rfl, hl7, _, hb7⟩
  have HT := Lib.hid hl7
  have HB := Lib.hid (HB6.out.trans (hb7.mono HB6.out.size))
  clear Htk hl7 hb7 HF6 HB6 HT6 Hg
  have hn_ : Blk (w7.alloc (.cells (fetchC z32 none 0 0).toArray 35)) w7.heap.size 35 (fetchC z32 none 0 0).toArray := Blk.new _ _ _
  have Hn_ := Lib.hid hn_
  clear hn_
  go_upto_region 4 with (first | (refine wpList_alloc0 rfl 35 rfl (fetchC z32 none 0 0).toArray _ i35 hi35 hz35 rfl ?_; simp only [Act.put, List.setIfInBounds_toArray, List.set_cons_succ, List.set_cons_zero]) | (refine wpList_store_row rfl 35 (.tmp 5) (.tmp 25) rfl w7.heap.size (fetchC tr A7 1 c7).toArray rfl rfl 35 (fetchC z32 none 0 0).toArray Hn_.out (size35 _ (by simp [fetchC_len])) (by simp [fetchC_len]) (fetch_one _ _ _ _) ?_))
  obtain ⟨w8, h_⟩ : ∃ v, v = (w7.alloc (.cells (fetchC z32 none 0 0).toArray 35)).setRow w7.heap.size (fetchC tr A7 1 c7).toArray := ⟨_, rfl⟩
  have hb_ : Below w7.heap.size w7 w8 := by rw [h_]; exact Below.setRow ((Below.refl _ _).alloc (Nat.le_refl _) _) (Nat.le_refl _) _
  have hF_ : Blk w8 w7.heap.size 35 (fetchC tr A7 1 c7).toArray := by rw [h_]; exact setRow_heap _ _ _ _ _ _ Hn_.out
  rw [← h_]
  clear h_ Hn_
  obtain ⟨hb, h_⟩ : ∃ v, v = w7.heap.size := ⟨_, rfl⟩
  rw [← h_] at hF_ ⊢
  have HFhb := Lib.hid hF_
  have Hhb := Lib.hid h_
  clear hF_ h_
  replace HB := Lib.hid (HB.out.trans (hb_.mono HB.out.size))
  replace HT := Lib.hid (HT.out.below hb_)
  clear hb_
  have hdl := Done_any tr A7 1 c7 H w8 HT.out (by omega) (by rw [HHX.out, HX.out, one_cut]; simp)
  rw [show doneL H = X by rw [HHX.out]; exact doneL_cut X, show doneE H = 0 by rw [HHX.out]; exact doneE_cut X] at hdl
  have Hdn := Lib.hid hdl
  clear hdl
  go_upto_region 5 with (refine wpList_load_mid rfl 35 (.tmp 5) rfl hb 0 rfl (fetchC tr A7 1 c7) _ (fetch_range HFhb.out) hd35 hrow35 (by rw [fetchC_len]; kernel_rfl) ?_)
  refine Hdn.out.mono ?_
  rintro e w9 ⟨A9, c9, rfl, hr9, hb9⟩
  have HR := Lib.hid hr9
  clear Hdn hr9 HT
  replace HB := Lib.hid (HB.out.trans (hb9.mono HB.out.size))
  clear hb9
  obtain ⟨wx, hwx⟩ : ∃ v, v = w9.alloc (.cells #[.int .u8 7] 5) := ⟨_, rfl⟩
  have hrx : Rd wx 1 (some ⟨w9.heap.size, 0, none⟩) 1 (X.map byteV) := by rw [hwx, HX.out]; exact lit_rdE w9 (byteV 7) 5
  have hbx : Below w9.heap.size w9 wx := by rw [hwx]; exact (Below.refl _ _).alloc (Nat.le_refl _) _
  have hsm := R2Same_any A9 (some ⟨w9.heap.size, 0, none⟩) X.length 1 c9 1 X X wx (HR.out.below hbx) hrx
  rw [decide_eq_true rfl] at hsm
  have Hsm := Lib.hid hsm
  have HBx := Lib.hid (HB.out.trans (hbx.mono HB.out.size))
  clear hrx hbx hsm HR HB
  go_wp2_with fail
  rw [← hwx]
  refine Hsm.out.mono ?_
  rintro e we ⟨rfl, hbe⟩
  have HBe := Lib.hid (HBx.out.trans (hbe.mono HBx.out.size))
  clear hwx Hsm hbe HBx
  go_wp2_with fail
  go_ret
  exact ⟨rfl, HBe.out⟩
end Go.Proofs.YthlecmmngldodaaDoor
