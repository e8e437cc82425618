/- Package sign's reference: Verify. -/
import Derived.Test.YtfdhiilhjfbehaaDoorS12
namespace Go.Proofs.YtfdhiilhjfbehaaDoor
open Go.RowKit Go.Sort

theorem built_claim (n i : Int) (A : Option Addr) (len cap : Nat) (B : Option Addr) (m c : Nat) : Tryd.prog.built 77 [(0, .int .i64 n), (1, .int .i64 i), (2, .slice A len cap), (3, .slice B m c)] = some (claimV n i A len cap B m c) := by kernel_rfl
def spRd (n : Nat) (xs : List Value) : Spec := ⟨fun v W => ∃ (A : Option Addr) (c : Nat), v = .slice A n c ∧ Rd W 1 A n xs, fun _ _ _ ⟨A, c, h1, h2⟩ hb => ⟨A, c, h1, h2.below hb⟩⟩
def spClaim (n i : Int) (len : Nat) (xs : List Value) (B : Option Addr) (m d : Nat) : Spec := ⟨fun v W => ∃ (A : Option Addr) (c : Nat), v = .agg (claimV n i A len c B m d) ∧ Rd W 1 A len xs, fun _ _ _ ⟨A, c, h1, h2⟩ hb => ⟨A, c, h1, h2.below hb⟩⟩

set_option maxRecDepth 100000 in
set_option maxHeartbeats 1000000 in
theorem RVerify_any (pub : Sum32) (A : Option Addr) (len cap : Nat) (bs : List UInt8) (i : Int) (C D : Option Addr) (n c m d : Nat) (ch pa : List Sum32) (w : World) (hr : Rd w 1 A len (bs.map byteV)) (hlen : len ≤ 8796093021000) (hch : Rd w 32 C n (ch.flatMap sumC)) (hpa : Rd w 32 D m (pa.flatMap sumC)) :
    Calls Tryd.prog 20 #[.agg (sumC pub).toArray, .slice A len cap, .agg (sgV i C n c D m d).toArray] w fun e w' => e = .returned (.bool (verS pub bs ⟨i, ch, pa⟩)) ∧ Below w.heap.size w w' := by
  obtain ⟨R, hR⟩ : ∃ R, R = verS pub bs ⟨i, ch, pa⟩ := ⟨_, rfl⟩
  have hR' := hR
  rw [ver_form pub bs i ch pa n m (hch.lenf sumC_len (by omega)) (hpa.lenf sumC_len (by omega))] at hR'
  rw [← hR]
  clear hR
  have HR0 := Lib.hid hR'
  clear hR'
  go_enter Tryd.func20, Tryd.ntmps20
  go_upto_region 1 with fail
  obtain ⟨w1, hw1⟩ : ∃ w1, w1 = (w.alloc (.cells (sumC pub).toArray 26)).alloc (.cells (sgV i C n c D m d).toArray 37) := ⟨_, rfl⟩
  have hB1 : Below w.heap.size w w1 := by rw [hw1]; exact ((Below.refl _ _).alloc (Nat.le_refl _) _).alloc (by simp) _
  have hX1 : Blk w1 w.heap.size 26 (sumC pub).toArray := by rw [hw1]; exact (Blk.new _ _ _).alloc _
  have hY1 : Blk w1 (w.heap.size + 1) 37 (sgV i C n c D m d).toArray := by
    have := Blk.new (w.alloc (.cells (sumC pub).toArray 26)) 37 (sgV i C n c D m d).toArray
    rw [World.size_alloc] at this
    rw [hw1]; exact this
  rw [← hw1]
  try rw [World.size_alloc]
  clear hw1
  have hsz1 := hB1.size
  obtain ⟨d37, hd37, hrow37⟩ := und37
  have HB := Lib.hid hB1
  have HX := Lib.hid hX1
  have HY := Lib.hid hY1
  have Hrg := Lib.hid (Blk.range (cs := sgV i C n c D m d) hY1)
  clear hB1 hX1 hY1
  go_upto_region 2 with (refine wpList_load_mid rfl 37 (.tmp 5) rfl (w.heap.size + 1) 0 rfl (sgV i C n c D m d) d37 Hrg.out hd37 hrow37 (by rw [sgV_len]; kernel_rfl) ?_)
  refine (RFormed_any i C n c D m d w1).mono ?_
  rintro e w2 ⟨rfl, hb2⟩
  replace HX := Lib.hid (HX.out.below hb2 HX.out.lt)
  replace HY := Lib.hid (HY.out.below hb2 HY.out.lt)
  replace HB := Lib.hid (HB.out.trans (hb2.mono hsz1))
  have hsz2 := HB.out.size
  clear hb2 Hrg
  by_cases hf : formB i n m = true
  rotate_left
  · have hR : R = false := by rw [HR0.out, if_neg hf]
    have HR1 := Lib.hid hR
    have hf' : formB i n m = false := by simpa using hf
    rw [hf']
    clear hf hf' HR0 hR
    go_wp2_with fail
    go_ret
    exact ⟨by rw [HR1.out]; rfl, HB.out⟩
  obtain ⟨rfl, hm4, N, rfl, hN, h16⟩ := form_of hf
  rw [hf]
  obtain ⟨ES, hES⟩ : ∃ ES, ES = endK (digS bs) ch 67 := ⟨_, rfl⟩
  have HR1 := Lib.hid (show R = decide (chkL (2 ^ m) N (leafS ES) pa = some pub) by rw [HR0.out, if_pos hf, hES]; rfl)
  have HES := Lib.hid hES
  have Hi := Lib.hid hN
  have Hn := Lib.hid (show 2 ^ m ≤ 1000 by omega)
  have Hr := Lib.hid (hr.below HB.out)
  have Hch := Lib.hid (hch.below HB.out)
  have Hpa := Lib.hid (hpa.below HB.out)
  have hsh : IntKind.i64.wrap (2 ^ m) = ((2 ^ m : Nat) : Int) := by rcases pow5n hm4 with rfl | rfl | rfl | rfl | rfl <;> rfl
  clear hf HR0 hr hch hpa hN h16 hES
  go_upto_region 4 with fail
  refine wp_region_flow_tail 14 [12, 13, 14, 15, 16, 17, 18, 19, 20, 21, 22, 23, 24, 25] [(Spec.is (.agg (sumC pub).toArray), false), (Spec.is (.pointer (some ⟨w.heap.size + 1, 2, none⟩)), false), (Spec.is (.slice D m d), false), (Spec.is (.int .i64 (m : Int)), false), (Spec.is (.int .i64 ((2 ^ m : Nat) : Int)), false), (Spec.is (.pointer (some ⟨w.heap.size + 1, 0, none⟩)), false), (Spec.is (.int .i64 (N : Int)), false), (Spec.is (.slice A len cap), false), (Spec.is (.agg (sgV (N : Int) C 67 c D m d).toArray), false), (spRd 2144 (ES.map byteV), false), (Spec.is (.pointer (some ⟨w.heap.size + 1, 2, none⟩)), false), (Spec.is (.slice D m d), false), (spClaim ((2 ^ m : Nat) : Int) (N : Int) 2144 (ES.map byteV) D m d, false), (Spec.is (.bool (decide (chkL (2 ^ m) N (leafS ES) pa = some pub))), false)] 26 (by kernel_rfl) (List.take_append_drop _ _) rfl (by kernel_rfl) (by kernel_rfl) (by kernel_rfl) (by decide) (by kernel_rfl) (by kernel_rfl) (fun _ _ d _ _ h => by cases d <;> exact h) rfl (by decide) rfl (by decide) (by kernel_rfl) ?_ ?_
  · refine ⟨?_, ?_, ?_, ?_, ?_, ?_, ?_, ?_, ?_, ?_, ?_, ?_, ?_, ?_, trivial⟩
    · intro a W hE hb hs
      have h3 : a.eval (.tmp 3) = .pointer (some ⟨w.heap.size, 0, none⟩) := hb 3 (by decide)
      refine flow0 rfl ?_
      exact val_load_row 26 _ rfl w.heap.size 0 h3 (sumC pub) _ (Blk.range (HX.out.below (ext_below hE) HX.out.lt)) und32 rfl (by rw [sumC_len]; kernel_rfl) ⟨rfl, trivial⟩
    · intro a W hE hb hs
      have h5 : a.eval (.tmp 5) = .pointer (some ⟨w.heap.size + 1, 0, none⟩) := hb 5 (by decide)
      refine flow0 rfl ?_
      intro K hK
      unfold Oper.wp execOp
      simp only [h5]
      simp [go_sem]
      exact hK _ _ ⟨Below.refl _ _, rfl, trivial⟩
    · intro a W hE hb hs
      have h13 : a.eval (.tmp 13) = .pointer (some ⟨w.heap.size + 1, 2, none⟩) := hs 1 (by decide)
      refine flow0 rfl ?_
      have g0 : W.cell? ⟨w.heap.size + 1, 2, none⟩ = some (.slice D m d) := by rw [(HY.out.below (ext_below hE) HY.out.lt).cell]; rfl
      intro K hK
      unfold Oper.wp execOp
      simp only [h13]
      simp [go_sem, g0]
      exact hK _ _ ⟨Below.refl _ _, rfl, trivial⟩
    · intro a W hE hb hs
      have h14 : a.eval (.tmp 14) = .slice D m d := hs 2 (by decide)
      refine flow0 rfl ?_
      exact val_len _ 35 26 rfl undSS _ _ _ h14 ⟨rfl, trivial⟩
    · intro a W hE hb hs
      have h15 : a.eval (.tmp 15) = .int .i64 (m : Int) := hs 3 (by decide)
      refine flow0 rfl ?_
      intro K hK
      unfold Oper.wp execOp
      simp only [h15, BigFrame.eval_const]
      simp [go_sem, hsh]
      exact hK _ _ ⟨Below.refl _ _, rfl, trivial⟩
    · intro a W hE hb hs
      have h5 : a.eval (.tmp 5) = .pointer (some ⟨w.heap.size + 1, 0, none⟩) := hb 5 (by decide)
      refine flow0 rfl ?_
      intro K hK
      unfold Oper.wp execOp
      simp only [h5]
      simp [go_sem]
      exact hK _ _ ⟨Below.refl _ _, rfl, trivial⟩
    · intro a W hE hb hs
      have h17 : a.eval (.tmp 17) = .pointer (some ⟨w.heap.size + 1, 0, none⟩) := hs 5 (by decide)
      refine flow0 rfl ?_
      have g0 : W.cell? ⟨w.heap.size + 1, 0, none⟩ = some (.int .i64 (N : Int)) := by rw [(HY.out.below (ext_below hE) HY.out.lt).cell]; rfl
      intro K hK
      unfold Oper.wp execOp
      simp only [h17]
      simp [go_sem, g0]
      exact hK _ _ ⟨Below.refl _ _, rfl, trivial⟩
    · intro a W hE hb hs
      have h1 : a.eval (.tmp 1) = .slice A len cap := hb 1 (by decide)
      refine flow0 rfl ?_
      exact val_move _ rfl _ h1 ⟨rfl, trivial⟩
    · intro a W hE hb hs
      have h5 : a.eval (.tmp 5) = .pointer (some ⟨w.heap.size + 1, 0, none⟩) := hb 5 (by decide)
      refine flow0 rfl ?_
      exact val_load_row 37 _ rfl (w.heap.size + 1) 0 h5 (sgV (N : Int) C 67 c D m d) d37 (Blk.range (cs := (sgV (N : Int) C 67 c D m d)) (HY.out.below (ext_below hE) HY.out.lt)) hd37 hrow37 (by rw [sgV_len]; kernel_rfl) ⟨rfl, trivial⟩
    · intro a W hE hb hs
      have h19 : a.eval (.tmp 19) = .slice A len cap := hs 7 (by decide)
      have h20 : a.eval (.tmp 20) = .agg (sgV (N : Int) C 67 c D m d).toArray := hs 8 (by decide)
      refine flow0 rfl ?_
      exact val_call 30 _ _ rfl (by kernel_rfl) [.slice A len cap, .agg (sgV (N : Int) C 67 c D m d).toArray] (by show [a.eval (.tmp 19), a.eval (.tmp 20)] = _; rw [h19, h20]) ((REnds_any A len cap bs (N : Int) C D c m d ch W (Hr.out.below (ext_below hE)) hlen (Hch.out.below (ext_below hE))).mono (by rintro e W' ⟨⟨A', c', rfl, hc', hR⟩, hb⟩; rw [← HES.out] at hR; exact ⟨_, rfl, hb, ⟨A', c', rfl, hR⟩, trivial⟩))
    · intro a W hE hb hs
      have h5 : a.eval (.tmp 5) = .pointer (some ⟨w.heap.size + 1, 0, none⟩) := hb 5 (by decide)
      refine flow0 rfl ?_
      intro K hK
      unfold Oper.wp execOp
      simp only [h5]
      simp [go_sem]
      exact hK _ _ ⟨Below.refl _ _, rfl, trivial⟩
    · intro a W hE hb hs
      have h22 : a.eval (.tmp 22) = .pointer (some ⟨w.heap.size + 1, 2, none⟩) := hs 10 (by decide)
      refine flow0 rfl ?_
      have g0 : W.cell? ⟨w.heap.size + 1, 2, none⟩ = some (.slice D m d) := by rw [(HY.out.below (ext_below hE) HY.out.lt).cell]; rfl
      intro K hK
      unfold Oper.wp execOp
      simp only [h22]
      simp [go_sem, g0]
      exact hK _ _ ⟨Below.refl _ _, rfl, trivial⟩
    · intro a W hE hb hs
      have h16 : a.eval (.tmp 16) = .int .i64 ((2 ^ m : Nat) : Int) := hs 4 (by decide)
      have h18 : a.eval (.tmp 18) = .int .i64 (N : Int) := hs 6 (by decide)
      have h21 : ∃ (A : Option Addr) (c : Nat), (a.eval (.tmp 21)) = .slice A 2144 c ∧ Rd W 1 A 2144 (ES.map byteV) := hs 9 (by decide)
      have h23 : a.eval (.tmp 23) = .slice D m d := hs 11 (by decide)
      refine flow0 rfl ?_
      obtain ⟨A', c', e21, hR⟩ := h21
      exact val_build 77 _ rfl [(0, .int .i64 ((2 ^ m : Nat) : Int)), (1, .int .i64 (N : Int)), (2, .slice A' 2144 c'), (3, .slice D m d)] (by show [(0, a.eval (.tmp 16)), (1, a.eval (.tmp 18)), (2, a.eval (.tmp 21)), (3, a.eval (.tmp 23))] = _; rw [h16, h18, e21, h23]) _ (built_claim _ _ _ _ _ _ _ _) ⟨⟨A', c', rfl, hR⟩, trivial⟩
    · intro a W hE hb hs
      have h12 : a.eval (.tmp 12) = .agg (sumC pub).toArray := hs 0 (by decide)
      have h24 : ∃ (A : Option Addr) (c : Nat), (a.eval (.tmp 24)) = .agg (claimV ((2 ^ m : Nat) : Int) (N : Int) A 2144 c D m d) ∧ Rd W 1 A 2144 (ES.map byteV) := hs 12 (by decide)
      refine flow0 rfl ?_
      obtain ⟨A', c', e24, hR⟩ := h24
      exact val_call 45 _ _ rfl (by kernel_rfl) [.agg (sumC pub).toArray, .agg (claimV ((2 ^ m : Nat) : Int) (N : Int) A' 2144 c' D m d)] (by show [a.eval (.tmp 12), a.eval (.tmp 24)] = _; rw [h12, e24]) ((RCheck_any pub (2 ^ m) N A' D 2144 c' m d ES pa Hi.out Hn.out W hR (by omega) (Hpa.out.below (ext_below hE))).mono (by rintro e W' ⟨rfl, hb⟩; exact ⟨_, rfl, hb, rfl, trivial⟩))
  · intro f W hb hT hp hd
    have e25 : f 25 = .bool (decide (chkL (2 ^ m) N (leafS ES) pa = some pub)) := hT 13 (by decide)
    simp only [putV, List.foldl_cons, List.foldl_nil, Act.put, List.setIfInBounds_toArray, List.set_cons_succ, List.set_cons_zero]
    rw [e25]
    have HBz := Lib.hid (HB.out.trans (hb.mono hsz2))
    clear hb hT hp hd e25
    simp only [List.drop_succ_cons, List.drop_zero]
    go_wp2_with fail
    go_ret
    exact ⟨by rw [HR1.out]; rfl, HBz.out⟩
end Go.Proofs.YtfdhiilhjfbehaaDoor
