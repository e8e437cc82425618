/- Package sign and its reference: Verify. -/
import Derived.Test.YtfdhiilhjfbehaaDoorS11
namespace Go.Proofs.YtfdhiilhjfbehaaDoor
open Go.RowKit Go.Sort

theorem undSS : Tryd.prog.underlying 35 = some (.slice 26) := by kernel_rfl
theorem ver_form (pub : Sum32) (bs : List UInt8) (i : Int) (ch pa : List Sum32) (n m : Nat) (hn : ch.length = n) (hm : pa.length = m) :
    verS pub bs ⟨i, ch, pa⟩ = if formB i n m = true then decide (chkL (2 ^ m) i.toNat (leafS (endK (digS bs) ch 67)) pa = some pub) else false := by
  subst hn hm
  rfl
theorem form_of {i : Int} {n m : Nat} (h : formB i n m = true) : n = 67 ∧ m ≤ 4 ∧ ∃ N : Nat, i = (N : Int) ∧ N < 2 ^ m ∧ 2 ^ m ≤ 16 := by
  unfold formB at h
  rw [decide_eq_true_eq] at h
  obtain ⟨h1, h2, h3, h4⟩ := h
  refine ⟨h1, h2, i.toNat, by omega, ?_, Nat.pow_le_pow_right (n := 2) (i := m) (j := 4) (by omega) h2⟩
  have : ((i.toNat : Nat) : Int) < ((2 ^ m : Nat) : Int) := by rw [Int.toNat_of_nonneg h3]; push_cast; exact h4
  exact_mod_cast this

set_option maxRecDepth 100000 in
set_option maxHeartbeats 1000000 in
theorem Verify_any (pub : Sum32) (A : Option Addr) (len cap : Nat) (bs : List UInt8) (i : Int) (C D : Option Addr) (n c m d : Nat) (ch pa : List Sum32) (w : World) (hg : Globs w) (hr : Rd w 1 A len (bs.map byteV)) (hlen : len ≤ 8796093021000) (hch : Rd w 32 C n (ch.flatMap sumC)) (hpa : Rd w 32 D m (pa.flatMap sumC)) (hmd : m ≤ d) :
    Calls Tryd.prog 19 #[.agg (sumC pub).toArray, .slice A len cap, .agg (sgV i C n c D m d).toArray] w fun e w' => e = .returned (.bool (verS pub bs ⟨i, ch, pa⟩)) ∧ Below w.heap.size w w' := by
  obtain ⟨i0, hi0, hz0, hz1, hz2⟩ := info_parts info5
  obtain ⟨i32, hi32, hz32, _, _⟩ := info_parts info32
  obtain ⟨R, hR⟩ : ∃ R, R = verS pub bs ⟨i, ch, pa⟩ := ⟨_, rfl⟩
  have hR' := hR
  rw [ver_form pub bs i ch pa n m (hch.lenf sumC_len (by omega)) (hpa.lenf sumC_len (by omega))] at hR'
  rw [← hR]
  clear hR
  have HR0 := Lib.hid hR'
  clear hR'
  go_enter Tryd.func19, Tryd.ntmps19
  go_upto_region 1 with fail
  obtain ⟨w1, hw1⟩ : ∃ w1, w1 = (w.alloc (.cells (sumC pub).toArray 26)).alloc (.cells (sgV i C n c D m d).toArray 37) := ⟨_, rfl⟩
  have hB1 : Below w.heap.size w w1 := by rw [hw1]; exact ((Below.refl _ _).alloc (Nat.le_refl _) _).alloc (by simp) _
  have hX1 : Blk w1 w.heap.size 26 (sumC pub).toArray := by rw [hw1]; exact (Blk.new _ _ _).alloc _
  have hY1 : Blk w1 (w.heap.size + 1) 37 (sgV i C n c D m d).toArray := by
    have := Blk.new (w.alloc (.cells (sumC pub).toArray 26)) 37 (sgV i C n c D m d).toArray
    rw [World.size_alloc] at this
    rw [hw1]; exact this
  rw [← hw1]
  try rw [World.size_alloc]
  clear hw1
  have hsz1 := hB1.size
  obtain ⟨d37, hd37, hrow37⟩ := und37
  have HB := Lib.hid hB1
  have HX := Lib.hid hX1
  have HY := Lib.hid hY1
  have Hrg := Lib.hid (Blk.range (cs := sgV i C n c D m d) hY1)
  clear hB1 hX1 hY1
  go_wp2_with (refine wpList_load_mid rfl 37 (.tmp 5) rfl (w.heap.size + 1) 0 rfl (sgV i C n c D m d) d37 Hrg.out hd37 hrow37 (by rw [sgV_len]; kernel_rfl) ?_)
  refine (formed_any i C n c D m d w1).mono ?_
  rintro e w2 ⟨rfl, hb2⟩
  replace HX := Lib.hid (HX.out.below hb2 HX.out.lt)
  replace HY := Lib.hid (HY.out.below hb2 HY.out.lt)
  replace HB := Lib.hid (HB.out.trans (hb2.mono hsz1))
  have hsz2 := HB.out.size
  clear hb2 Hrg
  by_cases hf : formB i n m = true
  rotate_left
  · have hR : R = false := by rw [HR0.out, if_neg hf]
    have HR1 := Lib.hid hR
    have hf' : formB i n m = false := by simpa using hf
    rw [hf']
    clear hf hf' HR0 hR
    go_wp2_with fail
    go_ret
    exact ⟨by rw [HR1.out]; rfl, HB.out⟩
  obtain ⟨rfl, hm4, N, rfl, hN, h16⟩ := form_of hf
  have HR1 := Lib.hid (show R = decide (chkL (2 ^ m) N (leafS (endK (digS bs) ch 67)) pa = some pub) by rw [HR0.out, if_pos hf]; rfl)
  rw [hf]
  have Hi := Lib.hid hN
  have Hn := Lib.hid (show 2 ^ m ≤ 1000000 by omega)
  have Hg := Lib.hid (hg.below HB.out)
  have Hch := Lib.hid (hch.below HB.out)
  have Hpa := Lib.hid (hpa.below HB.out)
  have Hmd := Lib.hid hmd
  obtain ⟨cb, co, rfl, _⟩ := hch.2.2 (by omega)
  clear hf HR0 hg hch hpa hmd hN h16
  go_upto_region 4 with fail
  go_upto_region 5 with fail
  refine (digits_any A len cap bs w2 Hg.out (hr.below HB.out) hlen).mono ?_
  rintro e w3 ⟨rfl, hb3⟩
  replace HX := Lib.hid (HX.out.below hb3 HX.out.lt)
  replace HY := Lib.hid (HY.out.below hb3 HY.out.lt)
  replace HB := Lib.hid (HB.out.trans (hb3.mono hsz2))
  replace Hg := Lib.hid (Hg.out.below hb3)
  replace Hch := Lib.hid (Hch.out.below hb3)
  replace Hpa := Lib.hid (Hpa.out.below hb3)
  have hsz3 := HB.out.size
  have Hdl := digS_len bs
  clear hb3 hr
  obtain ⟨V, hV⟩ : ∃ V, V = (digS bs).map natV := ⟨_, rfl⟩
  rw [← hV]
  have HV := Lib.hid hV
  clear hV
  go_wp2_with fail
  go_loopw [7, 8, 9, 10, 16] (fun v7 _ _ _ v16 wr => ∃ k : Nat, v16 = .int .i64 (k : Int) ∧ k ≤ 67 ∧ App wr w3.heap.size 5 v7 (32 * k) ((endK (digS bs) ch k).map byteV) ∧ Below w3.heap.size w3 wr) (fun _ _ _ _ v16 _ => 67 - (intOf v16).toNat)
  case atStart => exact ⟨0, rfl, by omega, .inr (World.ownsRow_nil _ _ _ _), Below.refl _ _⟩
  case round =>
    obtain ⟨k, rfl, hk, happ, hBr⟩ := hrel
    have Happ := Lib.hid happ
    have HBx := Lib.hid hBr
    have hszr := hBr.size
    clear happ hBr
    by_cases hlt : k < 67
    · have d0 : decide ((k : Int) < 67) = true := decide_eq_true (by omega)
      have hk67 : (k : Int) < 67 := by omega
      have hk0 : (0 : Int) ≤ (k : Int) := by omega
      obtain ⟨dg, hdg, hdl⟩ := digS_at (body := bs) hlt
      obtain ⟨x, hx⟩ : ∃ x, x = ch.getD k z32 := ⟨_, rfl⟩
      have Hek := Lib.hid (show endK (digS bs) ch (k + 1) = endK (digS bs) ch k ++ (stS x (15 - dg)).1 by rw [endK, ← hx, List.getD_eq_getElem?_getD, hdg]; rfl)
      have hx' : wr.rangeAt cb (co + k * 32) (sumC x) := by
        have := (Hch.out.below HBx.out).range32 hlt
        rwa [← hx] at this
      have hix : ∀ w', (Instr.index 73 (.agg V.toArray) (.int .i64 (k : Int))).run Tryd.prog w' = .ok (.int .i64 (dg : Int)) w' := by
        rw [HV.out]; exact run_index_67 (digS bs) Hdl k dg hdg
      have g1 : wr.cell? ⟨w.heap.size + 1, 1, none⟩ = some (.slice (some ⟨cb, co, none⟩) 67 c) := by rw [(HY.out.below HBx.out HY.out.lt).cell]; rfl
      have Hx := Lib.hid hx'
      have w15 : wrap64 (15 - (dg : Int)) = ((15 - dg : Nat) : Int) := by unfold wrap64; omega
      have hs32 := size32'
      clear hdg hx hx'
      go_upto_region 6 with fail
      go_upto_region 7 with fail
      go_upto_region 8 with (refine wpList_load_mid rfl 26 (.tmp 23) rfl cb (co + k * 32) rfl (sumC x) _ Hx.out und32 rfl (by rw [sumC_len]; kernel_rfl) ?_)
      rw [show (15 : Int) - (dg : Int) = ((15 - dg : Nat) : Int) from by omega]
      refine (steps_any x (15 - dg) (by omega) wr (Hg.out.below HBx.out)).mono ?_
      rintro e w4 ⟨rfl, hb4⟩
      obtain ⟨X, hX⟩ : ∃ X, X = stS x (15 - dg) := ⟨_, rfl⟩
      rw [← hX]
      rw [← hX] at Hek
      have hn_ : Blk (w4.alloc (.cells zero32 26)) w4.heap.size 26 zero32 := Blk.new _ _ _
      have Hn_ := Lib.hid hn_
      clear hn_ hX d0 hix g1 w15
      go_upto_region 8 with (first | (refine wpList_alloc0 rfl 26 rfl zero32 _ i32 hi32 hz32 rfl ?_; simp only [Act.put, List.setIfInBounds_toArray, List.set_cons_succ, List.set_cons_zero]) | (refine wpList_store_row rfl 26 (.tmp 10) (.tmp 27) rfl (w4.heap.size) (sumC X).toArray rfl rfl 26 _ Hn_.out (size32 _ (sum_size _)) ((zero32_size).trans (sum_size _).symm) (all_oneCell_toArray (oneB _)) ?_))
      obtain ⟨w5, hw5⟩ : ∃ v, v = (w4.alloc (.cells zero32 26)).setRow w4.heap.size (sumC X).toArray := ⟨_, rfl⟩
      have hb5 : Below w4.heap.size w4 w5 := by rw [hw5]; exact Below.setRow ((Below.refl _ _).alloc (Nat.le_refl _) _) (Nat.le_refl _) _
      have hX5 : Blk w5 w4.heap.size 26 (sumC X).toArray := by rw [hw5]; exact setRow_heap _ _ _ _ _ _ Hn_.out
      rw [← hw5]
      clear hw5 Hn_
      have hb5 := hb4.trans (hb5.mono hb4.size)
      have hxr : Rd w5 1 (some ⟨w4.heap.size, 0, none⟩) 32 (sumC X) := by
        have := hX5.rd (by rw [sumC_len]; omega)
        rwa [sumC_len] at this
      have Hxr := Lib.hid hxr
      replace Happ := Lib.hid (Happ.out.below hb5 (Nat.le_refl _))
      have HB5 := Lib.hid (HBx.out.trans (hb5.mono hszr))
      have hsz5 := HB5.out.size
      clear hb4 hb5 hX5 hxr
      simp only [Act.put]
      go_wp2_with (at_builtin; refine wpList_app rfl (.tmp 28) (.tmp 29) 22 rfl 5 i0 (.int .u8 0) 1 Tryd.underlying22 hi0 hz0 hz1 hz2 rfl w3.heap.size hsz5 _ _ _ rfl Happ.out (some ⟨w4.heap.size, 0, none⟩) 32 32 (sumC X) rfl Hxr.out (oneB _) (by unfold maxLen; omega) (by omega) ?_; intro v6 w6 happ6 hb6)
      have hb7 := HB5.out.trans hb6
      exact ⟨⟨k + 1, by go_num, by omega, by rw [Hek.out, List.map_append]; exact happ6, hb7⟩, by simp [intOf]; omega⟩
    · have he : k = 67 := by omega
      subst he
      obtain ⟨A', c', rfl, hc', hR⟩ := Happ.out.rd
      obtain ⟨ES, hES⟩ : ∃ ES, ES = endK (digS bs) ch 67 := ⟨_, rfl⟩
      rw [← hES] at hR HR1
      have HR := Lib.hid hR
      have hsh : IntKind.i64.wrap (2 ^ m) = ((2 ^ m : Nat) : Int) := by rcases pow5n hm4 with rfl | rfl | rfl | rfl | rfl <;> rfl
      clear hR hlt hES
      go_upto_region 10 with fail
      refine wp_region_flow_tail 11 [32, 33, 34, 35, 36, 37, 38, 39, 40, 41, 42] [(Spec.is (.agg (sumC pub).toArray), false), (Spec.is (.pointer (some ⟨w.heap.size + 1, 2, none⟩)), false), (Spec.is (.slice D m d), false), (Spec.is (.int .i64 (m : Int)), false), (Spec.is (.int .i64 ((2 ^ m : Nat) : Int)), false), (Spec.is (.pointer (some ⟨w.heap.size + 1, 0, none⟩)), false), (Spec.is (.int .i64 (N : Int)), false), (Spec.is (.slice A' 2144 c'), false), (Spec.is (.pointer (some ⟨w.heap.size + 1, 2, none⟩)), false), (Spec.is (.slice D m d), false), (Spec.is (.bool (decide (chkL (2 ^ m) N (leafS ES) pa = some pub))), false)] 43 (by kernel_rfl) (List.take_append_drop _ _) rfl (by kernel_rfl) (by kernel_rfl) (by kernel_rfl) (by decide) (by kernel_rfl) (by kernel_rfl) (fun _ _ d _ _ h => by cases d <;> exact h) rfl (by decide) rfl (by decide) (by kernel_rfl) ?_ ?_
      · refine ⟨?_, ?_, ?_, ?_, ?_, ?_, ?_, ?_, ?_, ?_, ?_, trivial⟩
        · intro a W hE hb hs
          have h3 : a.eval (.tmp 3) = .pointer (some ⟨w.heap.size, 0, none⟩) := hb 3 (by decide)
          refine flow0 rfl ?_
          exact val_load_row 26 _ rfl w.heap.size 0 h3 (sumC pub) _ (Blk.range (HX.out.below (HBx.out.trans ((ext_below hE).mono hszr)) HX.out.lt)) und32 rfl (by rw [sumC_len]; kernel_rfl) ⟨rfl, trivial⟩
        · intro a W hE hb hs
          have h5 : a.eval (.tmp 5) = .pointer (some ⟨w.heap.size + 1, 0, none⟩) := hb 5 (by decide)
          refine flow0 rfl ?_
          intro K hK
          unfold Oper.wp execOp
          simp only [h5]
          simp [go_sem]
          exact hK _ _ ⟨Below.refl _ _, rfl, trivial⟩
        · intro a W hE hb hs
          have h33 : a.eval (.tmp 33) = .pointer (some ⟨w.heap.size + 1, 2, none⟩) := hs 1 (by decide)
          refine flow0 rfl ?_
          have g0 : W.cell? ⟨w.heap.size + 1, 2, none⟩ = some (.slice D m d) := by rw [(HY.out.below (HBx.out.trans ((ext_below hE).mono hszr)) HY.out.lt).cell]; rfl
          intro K hK
          unfold Oper.wp execOp
          simp only [h33]
          simp [go_sem, g0]
          exact hK _ _ ⟨Below.refl _ _, rfl, trivial⟩
        · intro a W hE hb hs
          have h34 : a.eval (.tmp 34) = .slice D m d := hs 2 (by decide)
          refine flow0 rfl ?_
          exact val_len _ 35 26 rfl undSS _ _ _ h34 ⟨rfl, trivial⟩
        · intro a W hE hb hs
          have h35 : a.eval (.tmp 35) = .int .i64 (m : Int) := hs 3 (by decide)
          refine flow0 rfl ?_
          intro K hK
          unfold Oper.wp execOp
          simp only [h35, BigFrame.eval_const]
          simp [go_sem, hsh]
          exact hK _ _ ⟨Below.refl _ _, rfl, trivial⟩
        · intro a W hE hb hs
          have h5 : a.eval (.tmp 5) = .pointer (some ⟨w.heap.size + 1, 0, none⟩) := hb 5 (by decide)
          refine flow0 rfl ?_
          intro K hK
          unfold Oper.wp execOp
          simp only [h5]
          simp [go_sem]
          exact hK _ _ ⟨Below.refl _ _, rfl, trivial⟩
        · intro a W hE hb hs
          have h37 : a.eval (.tmp 37) = .pointer (some ⟨w.heap.size + 1, 0, none⟩) := hs 5 (by decide)
          refine flow0 rfl ?_
          have g0 : W.cell? ⟨w.heap.size + 1, 0, none⟩ = some (.int .i64 (N : Int)) := by rw [(HY.out.below (HBx.out.trans ((ext_below hE).mono hszr)) HY.out.lt).cell]; rfl
          intro K hK
          unfold Oper.wp execOp
          simp only [h37]
          simp [go_sem, g0]
          exact hK _ _ ⟨Below.refl _ _, rfl, trivial⟩
        · intro a W hE hb hs
          have h7 : a.eval (.tmp 7) = .slice A' 2144 c' := hb 7 (by decide)
          refine flow0 rfl ?_
          exact val_move _ rfl _ h7 ⟨rfl, trivial⟩
        · intro a W hE hb hs
          have h5 : a.eval (.tmp 5) = .pointer (some ⟨w.heap.size + 1, 0, none⟩) := hb 5 (by decide)
          refine flow0 rfl ?_
          intro K hK
          unfold Oper.wp execOp
          simp only [h5]
          simp [go_sem]
          exact hK _ _ ⟨Below.refl _ _, rfl, trivial⟩
        · intro a W hE hb hs
          have h40 : a.eval (.tmp 40) = .pointer (some ⟨w.heap.size + 1, 2, none⟩) := hs 8 (by decide)
          refine flow0 rfl ?_
          have g0 : W.cell? ⟨w.heap.size + 1, 2, none⟩ = some (.slice D m d) := by rw [(HY.out.below (HBx.out.trans ((ext_below hE).mono hszr)) HY.out.lt).cell]; rfl
          intro K hK
          unfold Oper.wp execOp
          simp only [h40]
          simp [go_sem, g0]
          exact hK _ _ ⟨Below.refl _ _, rfl, trivial⟩
        · intro a W hE hb hs
          have h32 : a.eval (.tmp 32) = .agg (sumC pub).toArray := hs 0 (by decide)
          have h36 : a.eval (.tmp 36) = .int .i64 ((2 ^ m : Nat) : Int) := hs 4 (by decide)
          have h38 : a.eval (.tmp 38) = .int .i64 (N : Int) := hs 6 (by decide)
          have h39 : a.eval (.tmp 39) = .slice A' 2144 c' := hs 7 (by decide)
          have h41 : a.eval (.tmp 41) = .slice D m d := hs 9 (by decide)
          refine flow0 rfl ?_
          exact val_call 24 _ _ rfl (by kernel_rfl) [.agg (sumC pub).toArray, .int .i64 ((2 ^ m : Nat) : Int), .int .i64 (N : Int), .slice A' 2144 c', .slice D m d] (by show [a.eval (.tmp 32), a.eval (.tmp 36), a.eval (.tmp 38), a.eval (.tmp 39), a.eval (.tmp 41)] = _; rw [h32, h36, h38, h39, h41]) ((Check_any pub (2 ^ m) N A' D 2144 c' m d ES pa Hi.out Hn.out W (Hg.out.below (HBx.out.trans ((ext_below hE).mono hszr))) (HR.out.below (ext_below hE)) (by omega) (Hpa.out.below (HBx.out.trans ((ext_below hE).mono hszr))) Hmd.out).mono (by rintro e W' ⟨rfl, hb⟩; exact ⟨_, rfl, hb, rfl, trivial⟩))
      · intro f W hb hT hp hd
        have e42 : f 42 = .bool (decide (chkL (2 ^ m) N (leafS ES) pa = some pub)) := hT 10 (by decide)
        simp only [putV, List.foldl_cons, List.foldl_nil, Act.put, List.setIfInBounds_toArray, List.set_cons_succ, List.set_cons_zero]
        rw [e42]
        have HBz := Lib.hid (HB.out.trans ((HBx.out.trans (hb.mono hszr)).mono hsz3))
        clear hb hT hp hd e42
        simp only [List.drop_succ_cons, List.drop_zero]
        go_wp2_with fail
        go_ret
        exact ⟨by rw [HR1.out]; rfl, HBz.out⟩
end Go.Proofs.YtfdhiilhjfbehaaDoor
