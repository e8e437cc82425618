/- Order's comparison: by keys. -/
import Derived.Test.YtcelkneeedebiaaX17
namespace Go.Proofs.Ytcelkneeedebiaa
open Go.RowKit Go.Sort

theorem val_callv {P : Program} {Q : Exit → Act → World → Prop} {o : Oper} {a : Act} {W : World} {R : Value → World → Prop} (f : FuncId) (x : Operand) (args : Array Operand) (ts : Array TypeId) (ho : o.op = .call { callee := .value x, args := args, argTypes := ts }) (hf : (P.funcs[f]?).map (fun fn => (fn.name == "runtime.NumGoroutine", fn.body.isNone)) = some (false, false)) (cb : Array Value) (hx : a.eval x = .func (.func f) #[] cb) (vs : List Value) (hvs : args.toList.map a.eval = vs) (h : Calls P f (vs.toArray ++ cb) W (fun e W' => ∃ v, e = .returned v ∧ Below W.heap.size W W' ∧ R v W')) : Val P Q o a W (fun v W' => Below W.heap.size W W' ∧ R v W') := fun K hK => by
  have hvs' : args.map a.eval = vs.toArray := by subst hvs; obtain ⟨l⟩ := args; simp only [List.map_toArray]
  unfold Oper.wp execOp
  simp only [ho]
  simp only [resolve, hx, hvs', Deferred.ofValue, Sem.run_bind, Sem.run_pure, Result.andThen_ok, invoke, Array.empty_append, run_callFunc hf, Oper.upon]
  refine h.mono ?_
  rintro e W' ⟨v, rfl, hb, hR⟩
  exact hK _ _ ⟨hb, hR⟩
def spVar (T : TypeId) (Z : Array Value) : Spec := ⟨fun v W => ∃ B, v = .pointer (some ⟨B, 0, none⟩) ∧ Blk W B T Z, fun _ _ _ ⟨B, h1, h2⟩ hb => ⟨B, h1, h2.below hb h2.lt⟩⟩
def spTwo (x y : Int) : Spec := ⟨fun v W => ∃ A : Option Addr, v = .slice A 2 2 ∧ Rd W 1 A 2 ([x, y].map intV), fun _ _ _ ⟨A, h1, h2⟩ hb => ⟨A, h1, h2.below hb⟩⟩
theorem rd_new2 (W : World) (x y : Int) : Rd (W.alloc (.cells #[.int .i64 x, .int .i64 y] 3)) 1 (some ⟨W.heap.size, 0, none⟩) 2 ([x, y].map intV) :=
  rd_blk (T := 3) (xs := [.int .i64 x, .int .i64 y]) (Blk.new _ _ _) rfl (by decide)
theorem orL_cmpK (n : Nat) (r : Nat → Nat) (w i j : Nat) : orL [cmpI (r i) (r j), cmpI (sec n r w i) (sec n r w j)] = cmpK n r w i j := by
  unfold cmpK
  by_cases h : cmpI (r i) (r j) = 0
  · rw [if_neg (by simpa using h), orL, if_pos h]
    unfold orL
    split
    · rename_i e; rw [e]; rfl
    · rfl
  · rw [if_pos (by simpa using h), orL, if_neg h]
set_option maxRecDepth 100000 in
set_option maxHeartbeats 2000000 in
theorem Cmp_any (T10 T9 T5 T3 RB n width : Nat) (r : Nat → Nat) (i k : Nat) (w : World) (c10 : w.cell? ⟨T10, 0, none⟩ = some (.func (.func 22) #[] #[.pointer (some ⟨T9, 0, none⟩), .pointer (some ⟨T5, 0, none⟩), .pointer (some ⟨T3, 0, none⟩)])) (hK : KeyW T9 T5 T3 RB n width r w) (hi : i < n) (hk : k < n) (hn : n ≤ 1000000) (hwd : width ≤ 1000000000) :
    Calls Try.prog 24 #[.int .i64 (i : Int), .int .i64 (k : Int), .pointer (some ⟨T10, 0, none⟩)] w fun e w' => e = .returned (.int .i64 (cmpK n r width i k)) ∧ Below w.heap.size w w' ∧ w.drawn ≤ w'.drawn := by
  obtain ⟨i41, hi41, hz41, _, _⟩ := info_parts info41
  obtain ⟨i3, hi3, hz3, hs3, hy3⟩ := info_parts info3v
  have HK := Lib.hid hK
  clear hK
  go_enter Try.func24, Try.ntmps24
  go_upto_region 1 with fail
  refine wp_region_flowD_tail 8 [8, 9, 10, 11, 12, 13, 6, 7] [(Spec.is (.func (.func 22) #[] #[.pointer (some ⟨T9, 0, none⟩), .pointer (some ⟨T5, 0, none⟩), .pointer (some ⟨T3, 0, none⟩)]), false), (Spec.is (.int .i64 (i : Int)), false), (Spec.is (.agg (pr2 (r i) (sec n r width i)).toArray), false), (Spec.is (.func (.func 22) #[] #[.pointer (some ⟨T9, 0, none⟩), .pointer (some ⟨T5, 0, none⟩), .pointer (some ⟨T3, 0, none⟩)]), false), (Spec.is (.int .i64 (k : Int)), false), (Spec.is (.agg (pr2 (r k) (sec n r width k)).toArray), false), (spVar 41 (pr2 0 0).toArray, true), (spVar 41 (pr2 0 0).toArray, true)] 26 (by kernel_rfl) (List.take_append_drop _ _) rfl (by kernel_rfl) (by kernel_rfl) (by kernel_rfl) (by decide) (by kernel_rfl) (by kernel_rfl) (fun _ _ d _ _ h => by cases d <;> exact h) rfl (by decide) rfl (by decide) (by kernel_rfl) ?_ ?_
  · refine ⟨?_, ?_, ?_, ?_, ?_, ?_, ?_, ?_, trivial⟩
    · intro a W hE hb hs
      replace hE := hE.1
      have h2 : a.eval (.tmp 2) = .pointer (some ⟨T10, 0, none⟩) := hb 2 (by decide)
      refine flow0 rfl ?_
      have c1 : W.cell? ⟨T10, 0, none⟩ = some (.func (.func 22) #[] #[.pointer (some ⟨T9, 0, none⟩), .pointer (some ⟨T5, 0, none⟩), .pointer (some ⟨T3, 0, none⟩)]) := cell_ext hE c10
      intro K hK
      unfold Oper.wp execOp
      simp only [h2]
      simp [go_sem, c1]
      exact hK _ _ ⟨Below.refl _ _, Nat.le_refl _, rfl, trivial⟩
    · intro a W hE hb hs
      replace hE := hE.1
      have h0 : a.eval (.tmp 0) = .int .i64 (i : Int) := hb 0 (by decide)
      refine flow0 rfl ?_
      exact val_move _ rfl _ h0 ⟨Nat.le_refl _, rfl, trivial⟩
    · intro a W hE hb hs
      replace hE := hE.1
      have h8 : a.eval (.tmp 8) = .func (.func 22) #[] #[.pointer (some ⟨T9, 0, none⟩), .pointer (some ⟨T5, 0, none⟩), .pointer (some ⟨T3, 0, none⟩)] := hs 0 (by decide)
      have h9 : a.eval (.tmp 9) = .int .i64 (i : Int) := hs 1 (by decide)
      refine flow0 rfl ?_
      exact val_callv 22 _ _ _ rfl (by kernel_rfl) #[.pointer (some ⟨T9, 0, none⟩), .pointer (some ⟨T5, 0, none⟩), .pointer (some ⟨T3, 0, none⟩)] h8 [.int .i64 (i : Int)] (by show [a.eval (.tmp 9)] = _; rw [h9]) ((Key_any T9 T5 T3 RB n width r i W (HK.out.below (ext_below hE)) hi hn hwd).mono (by rintro e W' ⟨rfl, hb, hdr⟩; exact ⟨_, rfl, hb, hdr, rfl, trivial⟩))
    · intro a W hE hb hs
      replace hE := hE.1
      have h2 : a.eval (.tmp 2) = .pointer (some ⟨T10, 0, none⟩) := hb 2 (by decide)
      refine flow0 rfl ?_
      have c1 : W.cell? ⟨T10, 0, none⟩ = some (.func (.func 22) #[] #[.pointer (some ⟨T9, 0, none⟩), .pointer (some ⟨T5, 0, none⟩), .pointer (some ⟨T3, 0, none⟩)]) := cell_ext hE c10
      intro K hK
      unfold Oper.wp execOp
      simp only [h2]
      simp [go_sem, c1]
      exact hK _ _ ⟨Below.refl _ _, Nat.le_refl _, rfl, trivial⟩
    · intro a W hE hb hs
      replace hE := hE.1
      have h1 : a.eval (.tmp 1) = .int .i64 (k : Int) := hb 1 (by decide)
      refine flow0 rfl ?_
      exact val_move _ rfl _ h1 ⟨Nat.le_refl _, rfl, trivial⟩
    · intro a W hE hb hs
      replace hE := hE.1
      have h11 : a.eval (.tmp 11) = .func (.func 22) #[] #[.pointer (some ⟨T9, 0, none⟩), .pointer (some ⟨T5, 0, none⟩), .pointer (some ⟨T3, 0, none⟩)] := hs 3 (by decide)
      have h12 : a.eval (.tmp 12) = .int .i64 (k : Int) := hs 4 (by decide)
      refine flow0 rfl ?_
      exact val_callv 22 _ _ _ rfl (by kernel_rfl) #[.pointer (some ⟨T9, 0, none⟩), .pointer (some ⟨T5, 0, none⟩), .pointer (some ⟨T3, 0, none⟩)] h11 [.int .i64 (k : Int)] (by show [a.eval (.tmp 12)] = _; rw [h12]) ((Key_any T9 T5 T3 RB n width r k W (HK.out.below (ext_below hE)) hk hn hwd).mono (by rintro e W' ⟨rfl, hb, hdr⟩; exact ⟨_, rfl, hb, hdr, rfl, trivial⟩))
    · intro a W hE hb hs
      replace hE := hE.1
      refine flow0 rfl ?_
      exact val_alloc _ rfl (pr2 0 0).toArray _ i41 hi41 hz41 rfl ⟨Nat.le_refl _, ⟨_, rfl, Blk.new _ _ _⟩, _, rfl, Nat.le_refl _, by rw [World.size_alloc]; omega⟩
    · intro a W hE hb hs
      replace hE := hE.1
      refine flow0 rfl ?_
      exact val_alloc _ rfl (pr2 0 0).toArray _ i41 hi41 hz41 rfl ⟨Nat.le_refl _, ⟨_, rfl, Blk.new _ _ _⟩, _, rfl, Nat.le_refl _, by rw [World.size_alloc]; omega⟩
  intro f W hb hdr hT hp hd
  have e10 : f 10 = .agg (pr2 (r i) (sec n r width i)).toArray := hT 2 (by decide)
  have e13 : f 13 = .agg (pr2 (r k) (sec n r width k)).toArray := hT 5 (by decide)
  obtain ⟨X6, eX6, hX6⟩ : ∃ B, f 6 = .pointer (some ⟨B, 0, none⟩) ∧ Blk W B 41 (pr2 0 0).toArray := hT 6 (by decide)
  have lX6 : w.heap.size ≤ X6 := by
    obtain ⟨b', h1, h2, _⟩ := hp 6 (by decide) rfl
    have h1' : f 6 = .pointer (some ⟨b', 0, none⟩) := h1
    rw [eX6] at h1'
    injection h1' with h; injection h with h; injection h with h
    omega
  obtain ⟨X7, eX7, hX7⟩ : ∃ B, f 7 = .pointer (some ⟨B, 0, none⟩) ∧ Blk W B 41 (pr2 0 0).toArray := hT 7 (by decide)
  have lX7 : w.heap.size ≤ X7 := by
    obtain ⟨b', h1, h2, _⟩ := hp 7 (by decide) rfl
    have h1' : f 7 = .pointer (some ⟨b', 0, none⟩) := h1
    rw [eX7] at h1'
    injection h1' with h; injection h with h; injection h with h
    omega
  have hne : X6 ≠ X7 := fun e => hd 6 7 (by decide) (by decide) (by decide) rfl rfl (by show f 6 = f 7; rw [eX6, eX7, e])
  simp only [putV, List.foldl_cons, List.foldl_nil, Act.put, List.setIfInBounds_toArray, List.set_cons_succ, List.set_cons_zero]
  rw [e10, e13, eX6, eX7]
  have H6 := Lib.hid hX6
  have hk6 := (KeptIn.refl (fun b => b ≠ X6) W).setRow (g := X6) (fun h => h rfl) (pr2 (r i) (sec n r width i)).toArray
  have h7 := hX7.keptIn hk6 (show X7 ≠ X6 from fun e => hne e.symm)
  have H7 := Lib.hid h7
  have h6 : Blk (W.setRow X6 (pr2 (r i) (sec n r width i)).toArray) X6 41 (pr2 (r i) (sec n r width i)).toArray := setRow_heap _ _ _ _ _ _ hX6
  have hk7 := (KeptIn.refl (fun b => b ≠ X7) (W.setRow X6 (pr2 (r i) (sec n r width i)).toArray)).setRow (g := X7) (fun h => h rfl) (pr2 (r k) (sec n r width k)).toArray
  have h6b := h6.keptIn hk7 hne
  have h7b : Blk ((W.setRow X6 (pr2 (r i) (sec n r width i)).toArray).setRow X7 (pr2 (r k) (sec n r width k)).toArray) X7 41 (pr2 (r k) (sec n r width k)).toArray := setRow_heap _ _ _ _ _ _ h7
  have HB2 := Lib.hid (Below.setRow (Below.setRow hb lX6 (pr2 (r i) (sec n r width i)).toArray) lX7 (pr2 (r k) (sec n r width k)).toArray)
  have HD2 := Lib.hid (show w.drawn ≤ ((W.setRow X6 (pr2 (r i) (sec n r width i)).toArray).setRow X7 (pr2 (r k) (sec n r width k)).toArray).drawn from hdr)
  have H6b := Lib.hid h6b
  have H7b := Lib.hid h7b
  clear h6b h7b hk7 h6 h7 hk6 hb hdr hT hp hd e10 e13 eX6 eX7 hX6 hX7
  go_upto_region 2 with (first | (refine wpList_store_row rfl 41 (.tmp 6) (.tmp 10) rfl X6 (pr2 (r i) (sec n r width i)).toArray rfl rfl 41 _ H6.out (size41 _ rfl) rfl (pr2_one _ _) ?_) | (refine wpList_store_row rfl 41 (.tmp 7) (.tmp 13) rfl X7 (pr2 (r k) (sec n r width k)).toArray rfl rfl 41 _ H7.out (size41 _ rfl) rfl (pr2_one _ _) ?_))
  replace H6 := H6b
  replace H7 := H7b
  clear H6b H7b
  generalize (W.setRow X6 (pr2 (r i) (sec n r width i)).toArray).setRow X7 (pr2 (r k) (sec n r width k)).toArray = w2 at *
  obtain ⟨a0, ha0⟩ : ∃ v : Int, v = (r i : Int) := ⟨_, rfl⟩
  obtain ⟨b0, hb0⟩ : ∃ v : Int, v = (r k : Int) := ⟨_, rfl⟩
  obtain ⟨a1, ha1⟩ : ∃ v : Int, v = sec n r width i := ⟨_, rfl⟩
  obtain ⟨b1, hb1⟩ : ∃ v : Int, v = sec n r width k := ⟨_, rfl⟩
  rw [← ha0, ← ha1] at H6
  rw [← hb0, ← hb1] at H7
  obtain ⟨v0, hv0⟩ : ∃ v, v = cmpI a0 b0 := ⟨_, rfl⟩
  obtain ⟨v1, hv1⟩ : ∃ v, v = cmpI a1 b1 := ⟨_, rfl⟩
  have hfin : orL [v0, v1] = cmpK n r width i k := by rw [hv0, hv1, ha0, hb0, ha1, hb1]; exact orL_cmpK n r width i k
  have Hv0 := Lib.hid hv0
  have Hv1 := Lib.hid hv1
  have HF := Lib.hid hfin
  clear hfin hv0 hv1 ha0 ha1 hb0 hb1
  refine wp_region_flowD [14, 15, 16, 17, 18, 19, 20, 21, 22, 23, 24, 25, 5] [(Spec.is (.pointer (some ⟨X6, 0, none⟩)), false), (Spec.is (.int .i64 a0), false), (Spec.is (.pointer (some ⟨X7, 0, none⟩)), false), (Spec.is (.int .i64 b0), false), (Spec.is (.int .i64 v0), false), (Spec.is (.pointer (some ⟨X6, 1, none⟩)), false), (Spec.is (.int .i64 a1), false), (Spec.is (.pointer (some ⟨X7, 1, none⟩)), false), (Spec.is (.int .i64 b1), false), (Spec.is (.int .i64 v1), false), (spTwo v0 v1, false), (Spec.is (.int .i64 (orL [v0, v1])), false), (Spec.is (.int .i64 (orL [v0, v1])), false)] 26 (by kernel_rfl) rfl (by decide) rfl (by decide) (by kernel_rfl) ?_ ?_
  · refine ⟨?_, ?_, ?_, ?_, ?_, ?_, ?_, ?_, ?_, ?_, ?_, ?_, ?_, trivial⟩
    · intro a W hE hb hs
      replace hE := hE.1
      have h6 : a.eval (.tmp 6) = .pointer (some ⟨X6, 0, none⟩) := hb 6 (by decide)
      refine flow0 rfl ?_
      intro K hK
      unfold Oper.wp execOp
      simp only [h6, BigFrame.eval_const]
      simp [go_sem]
      exact hK _ _ ⟨Below.refl _ _, Nat.le_refl _, rfl, trivial⟩
    · intro a W hE hb hs
      replace hE := hE.1
      have h14 : a.eval (.tmp 14) = .pointer (some ⟨X6, 0, none⟩) := hs 0 (by decide)
      refine flow0 rfl ?_
      have c1 : W.cell? ⟨X6, 0, none⟩ = some (.int .i64 a0) := by rw [(H6.out.below (ext_below hE) H6.out.lt).cell]; rfl
      intro K hK
      unfold Oper.wp execOp
      simp only [h14]
      simp [go_sem, c1]
      exact hK _ _ ⟨Below.refl _ _, Nat.le_refl _, rfl, trivial⟩
    · intro a W hE hb hs
      replace hE := hE.1
      have h7 : a.eval (.tmp 7) = .pointer (some ⟨X7, 0, none⟩) := hb 7 (by decide)
      refine flow0 rfl ?_
      intro K hK
      unfold Oper.wp execOp
      simp only [h7, BigFrame.eval_const]
      simp [go_sem]
      exact hK _ _ ⟨Below.refl _ _, Nat.le_refl _, rfl, trivial⟩
    · intro a W hE hb hs
      replace hE := hE.1
      have h16 : a.eval (.tmp 16) = .pointer (some ⟨X7, 0, none⟩) := hs 2 (by decide)
      refine flow0 rfl ?_
      have c1 : W.cell? ⟨X7, 0, none⟩ = some (.int .i64 b0) := by rw [(H7.out.below (ext_below hE) H7.out.lt).cell]; rfl
      intro K hK
      unfold Oper.wp execOp
      simp only [h16]
      simp [go_sem, c1]
      exact hK _ _ ⟨Below.refl _ _, Nat.le_refl _, rfl, trivial⟩
    · intro a W hE hb hs
      replace hE := hE.1
      have h15 : a.eval (.tmp 15) = .int .i64 a0 := hs 1 (by decide)
      have h17 : a.eval (.tmp 17) = .int .i64 b0 := hs 3 (by decide)
      refine flow0 rfl ?_
      exact val_call 26 _ _ rfl (by kernel_rfl) [.int .i64 a0, .int .i64 b0] (by show [a.eval (.tmp 15), a.eval (.tmp 17)] = _; rw [h15, h17]) ((CmpN_any a0 b0 W).mono (by rintro e W' ⟨rfl, rfl⟩; exact ⟨_, rfl, Below.refl _ _, Nat.le_refl _, by rw [Hv0.out]; rfl, trivial⟩))
    · intro a W hE hb hs
      replace hE := hE.1
      have h6 : a.eval (.tmp 6) = .pointer (some ⟨X6, 0, none⟩) := hb 6 (by decide)
      refine flow0 rfl ?_
      intro K hK
      unfold Oper.wp execOp
      simp only [h6, BigFrame.eval_const]
      simp [go_sem]
      exact hK _ _ ⟨Below.refl _ _, Nat.le_refl _, rfl, trivial⟩
    · intro a W hE hb hs
      replace hE := hE.1
      have h19 : a.eval (.tmp 19) = .pointer (some ⟨X6, 1, none⟩) := hs 5 (by decide)
      refine flow0 rfl ?_
      have c1 : W.cell? ⟨X6, 1, none⟩ = some (.int .i64 a1) := by rw [(H6.out.below (ext_below hE) H6.out.lt).cell]; rfl
      intro K hK
      unfold Oper.wp execOp
      simp only [h19]
      simp [go_sem, c1]
      exact hK _ _ ⟨Below.refl _ _, Nat.le_refl _, rfl, trivial⟩
    · intro a W hE hb hs
      replace hE := hE.1
      have h7 : a.eval (.tmp 7) = .pointer (some ⟨X7, 0, none⟩) := hb 7 (by decide)
      refine flow0 rfl ?_
      intro K hK
      unfold Oper.wp execOp
      simp only [h7, BigFrame.eval_const]
      simp [go_sem]
      exact hK _ _ ⟨Below.refl _ _, Nat.le_refl _, rfl, trivial⟩
    · intro a W hE hb hs
      replace hE := hE.1
      have h21 : a.eval (.tmp 21) = .pointer (some ⟨X7, 1, none⟩) := hs 7 (by decide)
      refine flow0 rfl ?_
      have c1 : W.cell? ⟨X7, 1, none⟩ = some (.int .i64 b1) := by rw [(H7.out.below (ext_below hE) H7.out.lt).cell]; rfl
      intro K hK
      unfold Oper.wp execOp
      simp only [h21]
      simp [go_sem, c1]
      exact hK _ _ ⟨Below.refl _ _, Nat.le_refl _, rfl, trivial⟩
    · intro a W hE hb hs
      replace hE := hE.1
      have h20 : a.eval (.tmp 20) = .int .i64 a1 := hs 6 (by decide)
      have h22 : a.eval (.tmp 22) = .int .i64 b1 := hs 8 (by decide)
      refine flow0 rfl ?_
      exact val_call 26 _ _ rfl (by kernel_rfl) [.int .i64 a1, .int .i64 b1] (by show [a.eval (.tmp 20), a.eval (.tmp 22)] = _; rw [h20, h22]) ((CmpN_any a1 b1 W).mono (by rintro e W' ⟨rfl, rfl⟩; exact ⟨_, rfl, Below.refl _ _, Nat.le_refl _, by rw [Hv1.out]; rfl, trivial⟩))
    · intro a W hE hb hs
      replace hE := hE.1
      have h18 : a.eval (.tmp 18) = .int .i64 v0 := hs 4 (by decide)
      have h23 : a.eval (.tmp 23) = .int .i64 v1 := hs 9 (by decide)
      refine flow0 rfl ?_
      exact val_buildSlice 25 3 2 _ rfl [(0, .int .i64 v0), (1, .int .i64 v1)] (by show [(0, a.eval (.tmp 18)), (1, a.eval (.tmp 23))] = _; rw [h18, h23]) #[.int .i64 v0, .int .i64 v1] i3 (.int .i64 0) 1 Try.underlying25 hi3 hz3 hs3 (by decide) (by decide) (by kernel_rfl) ⟨Nat.le_refl _, ⟨some ⟨W.heap.size, 0, none⟩, rfl, rd_new2 W _ _⟩, trivial⟩
    · intro a W hE hb hs
      replace hE := hE.1
      have h24 : ∃ A : Option Addr, (a.eval (.tmp 24)) = .slice A 2 2 ∧ Rd W 1 A 2 ([v0, v1].map intV) := hs 10 (by decide)
      refine flow0 rfl ?_
      obtain ⟨A', e24, hr24⟩ := h24
      exact val_call 25 _ _ rfl (by kernel_rfl) [.slice A' 2 2] (by show [a.eval (.tmp 24)] = _; rw [e24]) ((Or_any A' 2 2 [v0, v1] W hr24).mono (by rintro e W' ⟨rfl, rfl⟩; exact ⟨_, rfl, Below.refl _ _, Nat.le_refl _, rfl, trivial⟩))
    · intro a W hE hb hs
      replace hE := hE.1
      have h25 : a.eval (.tmp 25) = .int .i64 (orL [v0, v1]) := hs 11 (by decide)
      refine flow0 rfl ?_
      exact val_assign _ rfl _ h25 ⟨Nat.le_refl _, rfl, trivial⟩
  intro f2 W2 hb hdr hT hp hd
  have e5 : f2 5 = .int .i64 (orL [v0, v1]) := hT 12 (by decide)
  simp only [putV, List.foldl_cons, List.foldl_nil, Act.put, List.setIfInBounds_toArray, List.set_cons_succ, List.set_cons_zero, Exit.then]
  rw [e5]
  have HE := Lib.hid (HB2.out.trans (hb.mono HB2.out.size))
  have HDE := Lib.hid (Nat.le_trans HD2.out hdr)
  clear hb hdr hT hp hd e5
  go_wp2_with fail
  go_ret
  exact ⟨by rw [HF.out]; rfl, HE.out, HDE.out⟩
end Go.Proofs.Ytcelkneeedebiaa
