/- Comparing numbers, the first that is not 0; what neighbours have in common, by the reference. -/
import Derived.Test.YtcelkneeedebiaaX13
import Derived.Test.YtcelkneeedebiaaFlow
import Derived.Test.YtcelkneeedebiaaFlowT
namespace Go.Proofs.Ytcelkneeedebiaa
open Go.RowKit Go.Sort

theorem isNaNc_any (x : Int) (w : World) : Calls Try.prog 34 #[.int .i64 x] w fun e w' => e = .returned (.bool false) ∧ w' = w := by
  go_enter Try.func34, Try.ntmps34
  have h1 : (x != x) = false := by simp
  go_wp2_with fail
  go_ret
  exact ⟨rfl, rfl⟩
set_option maxRecDepth 100000 in
theorem CmpN_any (x y : Int) (w : World) : Calls Try.prog 26 #[.int .i64 x, .int .i64 y] w fun e w' => e = .returned (.int .i64 (if x < y then -1 else if y < x then 1 else 0)) ∧ w' = w := by
  go_enter Try.func26, Try.ntmps26
  have h := isNaNc_any x w
  have h2 := isNaNc_any y w
  go_wp2_with fail
  refine h.mono ?_
  rintro e w' ⟨rfl, hw⟩
  subst hw
  go_wp2_with fail
  refine h2.mono ?_
  rintro e w' ⟨rfl, hw⟩
  subst hw
  clear h h2
  by_cases h1 : x < y
  · go_wp2_with fail
    go_ret
    exact ⟨rfl, rfl⟩
  · by_cases h2 : y < x
    · go_wp2_with fail
      go_ret
      exact ⟨rfl, rfl⟩
    · go_wp2_with fail
      go_ret
      exact ⟨rfl, rfl⟩
/-- The first number that is not 0, or 0. -/
def orL : List Int → Int
  | [] => 0
  | x :: xs => if x = 0 then orL xs else x
set_option maxRecDepth 100000 in
set_option maxHeartbeats 1000000 in
theorem Or_any (A : Option Addr) (n c : Nat) (xs : List Int) (w : World) (hx : Rd w 1 A n (xs.map intV)) :
    Calls Try.prog 25 #[.slice A n c] w fun e w' => e = .returned (.int .i64 (orL xs)) ∧ w' = w := by
  have hxl := hx.len1
  have hnl := hx.le
  obtain ⟨R, hR⟩ : ∃ R, R = orL xs := ⟨_, rfl⟩
  rw [← hR]
  have HR := Lib.hid hR
  have Hx := Lib.hid hx
  have Hxl := Lib.hid hxl
  clear hR hx hxl
  go_enter Try.func25, Try.ntmps25
  go_wp2_with fail
  go_loopw [8] (fun v8 wr => ∃ k : Nat, v8 = .int .i64 (k : Int) ∧ k ≤ n ∧ orL (xs.drop k) = R ∧ wr = w) (fun v8 _ => n - (intOf v8).toNat)
  case atStart => exact ⟨0, rfl, by omega, by rw [HR.out]; rfl, rfl⟩
  case round =>
    obtain ⟨k, rfl, hk, hrest, rfl⟩ := hrel
    by_cases hlt : k < n
    · obtain ⟨b, off, x, rfl, hxk, cx⟩ := Hx.out.at_ hlt
      have cx' : wr.cell? ⟨b, off + k, none⟩ = some (.int .i64 x) := cx
      obtain ⟨l1, e1⟩ := List.getElem?_eq_some_iff.1 hxk
      rw [List.drop_eq_getElem_cons l1, e1] at hrest
      by_cases h0 : x = 0
      · have hr2 : orL (xs.drop (k + 1)) = R := by rw [← hrest, orL, if_pos h0]
        have Hr2 := Lib.hid hr2
        subst h0
        clear hr2 hrest l1 e1 hxk cx
        go_wp2_with fail
        exact ⟨⟨k + 1, by go_num, by omega, Hr2.out, trivial⟩, by simp [intOf]; omega⟩
      · have hr2 : x = R := by rw [← hrest, orL, if_neg h0]
        have Hr2 := Lib.hid hr2
        have hd : (x == 0) = false := by rw [beq_eq_false_iff_ne]; exact h0
        have hd2 : (x != 0) = true := by rw [bne, hd]; rfl
        clear hr2 hrest l1 e1 hxk cx h0
        go_wp2_with fail
        go_ret
        exact ⟨by rw [← Hr2.out]; rfl, rfl⟩
    · rw [List.drop_of_length_le (by have := Hxl.out; omega)] at hrest
      have hr2 : (0 : Int) = R := hrest
      have Hr2 := Lib.hid hr2
      have hd : decide ((k : Int) < (n : Int)) = false := decide_eq_false (by omega)
      have hd2 : decide (k < n) = false := decide_eq_false hlt
      clear hr2 hrest hlt
      go_wp2_with fail
      go_ret
      exact ⟨by rw [← Hr2.out]; rfl, rfl⟩
theorem nil25 (w : World) : (Instr.buildSlice 25 0 #[]).run Try.prog w = .ok (.slice (some ⟨w.heap.size, 0, none⟩) 0 0) (w.alloc (.cells #[] 3)) := by kernel_rfl
theorem info3v : (Try.prog.info? 3).map (fun i => (i.zero, i.size, i.bytes)) = some (some (.int .i64 0), 1, 8) := by kernel_rfl
theorem comL_take {xs : List UInt8} {l : List Nat} {i : Nat} (h : i < l.length) : (comL xs l).take (i + 1) = (comL xs l).take i ++ [comAt xs l i] := by
  rw [List.take_add_one, comL_at h]; rfl
theorem run_sliceAt_bytes (b off L c i : Nat) (hi : i < L) (hc : L ≤ c) (w : World) : (Instr.sliceAt 22 (.slice (some ⟨b, off, none⟩) L c) (some (.int .i64 (i : Int))) none none).run Try.prog w = .ok (.slice (some ⟨b, off + i, none⟩) (L - i) (c - i)) w := by
  rw [run_sliceAt_slice _ _ _ _ _ _ (by rw [elem22]; exact Try.underlying22)]
  exact run_slice_bytes b off L c i hi hc w
theorem val_slice_lo {P : Program} {Q : Exit → Act → World → Prop} {o : Oper} {a : Act} {W : World} {R : Value → World → Prop} (t : TypeId) (x y : Operand) (ho : o.op = .slice t x (some y) none none) (A : Option Addr) (n c m : Nat) (hx : a.eval x = .slice A n c) (hy : a.eval y = .int .i64 (m : Int)) {u : Value} (hr : (Instr.sliceAt t (.slice A n c) (some (.int .i64 (m : Int))) none none).run P W = .ok u W) (h : R u W) : Val P Q o a W (fun v W' => Below W.heap.size W W' ∧ R v W') := fun K hK => by
  unfold Oper.wp execOp
  simp only [ho, Option.map_none, Option.map_some, hx, hy, Sem.run_bind, hr, Result.andThen_ok]
  exact hK _ _ ⟨Below.refl _ _, h⟩
theorem cell_ext {w0 W : World} {p : Addr} {v : Value} (hE : Ext w0 W) (h : w0.cell? p = some v) : W.cell? p = some v := ((ext_below hE).cell (World.block_lt_of_cell? w0 p h)).trans h
theorem cell_below {w0 W : World} {p : Addr} {v : Value} (hb : Below w0.heap.size w0 W) (h : w0.cell? p = some v) : W.cell? p = some v := (hb.cell (World.block_lt_of_cell? w0 p h)).trans h
theorem ord_at {w : World} {ob oo m n : Nat} {l : List Nat} (ho : Rd w 1 (some ⟨ob, oo, none⟩) m (l.map natV)) (hl : ∀ i ∈ l, i < n) {i : Nat} (hi : i < m) : l.getD i 0 < n ∧ w.cell? ⟨ob, oo + i, none⟩ = some (.int .i64 (l.getD i 0 : Int)) := by
  obtain ⟨b, off, x, e, hx, hc⟩ := ho.at_ hi
  cases e
  rw [List.getD_eq_getElem?_getD, hx]
  exact ⟨hl x (List.mem_of_getElem? hx), hc⟩
set_option maxRecDepth 100000 in
set_option maxHeartbeats 2000000 in
theorem RCommon_any (A O : Option Addr) (n m c d : Nat) (xs : List UInt8) (l : List Nat) (w : World) (hx : Rd w 1 A n (xs.map byteV)) (ho : Rd w 1 O m (l.map natV)) (hnc : n ≤ c) (hm : m ≤ 100000) (hl : ∀ i ∈ l, i < n) :
    Calls Try.prog 18 #[.slice A n c, .slice O m d] w fun e w' => (∃ (A' : Option Addr) (c' : Nat), e = .returned (.slice A' m c') ∧ m ≤ c' ∧ Rd w' 1 A' m ((comL xs l).map natV)) ∧ Below w.heap.size w w' := by
  obtain ⟨i3, hi3, hz3, hs3, hy3⟩ := info_parts info3v
  have hxl := hx.len1
  have hol := ho.len1
  have hnl := hx.le
  have Hx := Lib.hid hx
  have Ho := Lib.hid ho
  have Hol := Lib.hid hol
  have Hl := Lib.hid hl
  have Hxl := Lib.hid hxl
  clear hx ho hol hl hxl
  have hbs := nil25
  go_enter Try.func18, Try.ntmps18
  go_upto_region 2 with fail
  obtain ⟨w1, hw1⟩ : ∃ v, v = w.alloc (.cells #[] 3) := ⟨_, rfl⟩
  have HB := Lib.hid (show Below w.heap.size w w1 by rw [hw1]; exact (Below.refl _ _).alloc (Nat.le_refl _) _)
  rw [← hw1]
  clear hw1 hbs
  go_wp2_with fail
  go_loopw [5, 6, 7] (fun v5 v6 _ wr => ∃ i : Nat, v6 = .int .i64 (i : Int) ∧ i ≤ m ∧ App wr w1.heap.size 3 v5 i (((comL xs l).take i).map natV) ∧ Below w1.heap.size w1 wr) (fun _ v6 _ _ => m - (intOf v6).toNat)
  case atStart => exact ⟨0, rfl, by omega, .inl ⟨rfl, rfl, _, rfl⟩, Below.refl _ _⟩
  case round =>
    obtain ⟨i, rfl, hi, happ, hBr⟩ := hrel
    have Happ := Lib.hid happ
    have HBr := Lib.hid hBr
    have hszr := hBr.size
    clear happ hBr
    by_cases hlt : i < m
    · have d0 : decide ((i : Int) < (m : Int)) = true := decide_eq_true (by omega)
      have Htk := Lib.hid (comL_take (xs := xs) (l := l) (i := i) (by rw [Hol.out]; exact hlt))
      obtain ⟨s, hs⟩ : ∃ s, s = comAt xs l i := ⟨_, rfl⟩
      rw [← hs] at Htk
      by_cases h0 : 0 < i
      · have d1 : decide ((i : Int) > 0) = true := decide_eq_true (by omega)
        have d1' : decide (0 < i) = true := decide_eq_true h0
        obtain ⟨bb, bo, rfl, _⟩ := Hx.out.2.2 (by
          have := Hl.out (l.getD i 0) (by rw [List.getD_eq_getElem?_getD, List.getElem?_eq_getElem (by rw [Hol.out]; exact hlt)]; exact List.getElem_mem _)
          omega)
        obtain ⟨ob, oo, rfl, _⟩ := Ho.out.2.2 (by omega)
        obtain ⟨j, hj⟩ : ∃ j, i = j + 1 := ⟨i - 1, by omega⟩
        have hBw := HB.out.trans (HBr.out.mono HB.out.size)
        have hjm : j < m := by omega
        obtain ⟨hpn, hp1⟩ := ord_at (Ho.out.below hBw) Hl.out hjm
        obtain ⟨hqn, hq1⟩ := ord_at (Ho.out.below hBw) Hl.out hlt
        have hs2 : s = sharedL (xs.drop (l.getD j 0)) (xs.drop (l.getD i 0)) := by rw [hs]; unfold comAt; rw [if_neg (by omega), hj]; rfl
        generalize l.getD j 0 = p at *
        generalize l.getD i 0 = q at *
        have HS := Lib.hid hs2
        have wj : IntKind.i64.wrap ((i : Int) - 1) = (j : Int) := by simp [IntKind.wrap, IntKind.bits, IntKind.signed]; omega
        have j0 : (0 : Int) ≤ (j : Int) := by omega
        have j1 : (j : Int) < (m : Int) := by omega
        have i0 : (0 : Int) ≤ (i : Int) := by omega
        have i1 : (i : Int) < (m : Int) := by omega
        have Hp := Lib.hid (rd_drop (Hx.out.below hBw) (show p ≤ n by omega))
        have Hq := Lib.hid (rd_drop (Hx.out.below hBw) (show q ≤ n by omega))
        clear hs hs2 hj hBw d1'
        go_upto_region 7 with fail
        refine wp_region_flowF [17, 18, 19, 20, 21, 22, 23, 24, 25, 26, 27, 28, 29, 30, 7] [(Spec.is (.slice (some ⟨bb, bo, none⟩) n c), false), (Spec.is (.slice (some ⟨ob, oo, none⟩) m d), false), (Spec.is (.int .i64 (i : Int)), false), (Spec.is (.int .i64 (j : Int)), false), (Spec.is (.pointer (some ⟨ob, oo + j, none⟩)), false), (Spec.is (.int .i64 (p : Int)), false), (Spec.is (.slice (some ⟨bb, bo + p, none⟩) (n - p) (c - p)), false), (Spec.is (.slice (some ⟨bb, bo, none⟩) n c), false), (Spec.is (.slice (some ⟨ob, oo, none⟩) m d), false), (Spec.is (.int .i64 (i : Int)), false), (Spec.is (.pointer (some ⟨ob, oo + i, none⟩)), false), (Spec.is (.int .i64 (q : Int)), false), (Spec.is (.slice (some ⟨bb, bo + q, none⟩) (n - q) (c - q)), false), (Spec.is (.int .i64 (s : Int)), false), (Spec.is (.int .i64 (s : Int)), false)] 36 (by kernel_rfl) rfl (by decide) rfl (by decide) (by kernel_rfl) ?_ ?_
        · refine ⟨?_, ?_, ?_, ?_, ?_, ?_, ?_, ?_, ?_, ?_, ?_, ?_, ?_, ?_, ?_, trivial⟩
          · intro a W hE hb hs
            have h0 : a.eval (.tmp 0) = .slice (some ⟨bb, bo, none⟩) n c := hb 0 (by decide)
            refine flow0 rfl ?_
            exact val_move _ rfl _ h0 ⟨rfl, trivial⟩
          · intro a W hE hb hs
            have h1 : a.eval (.tmp 1) = .slice (some ⟨ob, oo, none⟩) m d := hb 1 (by decide)
            refine flow0 rfl ?_
            exact val_move _ rfl _ h1 ⟨rfl, trivial⟩
          · intro a W hE hb hs
            have h6 : a.eval (.tmp 6) = .int .i64 (i : Int) := hb 6 (by decide)
            refine flow0 rfl ?_
            exact val_move _ rfl _ h6 ⟨rfl, trivial⟩
          · intro a W hE hb hs
            have h19 : a.eval (.tmp 19) = .int .i64 (i : Int) := hs 2 (by decide)
            refine flow0 rfl ?_
            intro K hK
            unfold Oper.wp execOp
            simp only [h19, BigFrame.eval_const]
            simp [go_sem, wj]
            exact hK _ _ ⟨Below.refl _ _, rfl, trivial⟩
          · intro a W hE hb hs
            have h18 : a.eval (.tmp 18) = .slice (some ⟨ob, oo, none⟩) m d := hs 1 (by decide)
            have h20 : a.eval (.tmp 20) = .int .i64 (j : Int) := hs 3 (by decide)
            refine flow0 rfl ?_
            intro K hK
            unfold Oper.wp execOp
            simp only [h18, h20]
            simp [go_sem, j1]
            exact hK _ _ ⟨Below.refl _ _, rfl, trivial⟩
          · intro a W hE hb hs
            have h21 : a.eval (.tmp 21) = .pointer (some ⟨ob, oo + j, none⟩) := hs 4 (by decide)
            refine flow0 rfl ?_
            have c1 : W.cell? ⟨ob, oo + j, none⟩ = some (.int .i64 (p : Int)) := cell_ext hE hp1
            intro K hK
            unfold Oper.wp execOp
            simp only [h21]
            simp [go_sem, c1]
            exact hK _ _ ⟨Below.refl _ _, rfl, trivial⟩
          · intro a W hE hb hs
            have h17 : a.eval (.tmp 17) = .slice (some ⟨bb, bo, none⟩) n c := hs 0 (by decide)
            have h22 : a.eval (.tmp 22) = .int .i64 (p : Int) := hs 5 (by decide)
            refine flow0 rfl ?_
            exact val_slice_lo _ _ _ rfl (some ⟨bb, bo, none⟩) n c p h17 h22 (run_sliceAt_bytes bb bo n c p hpn hnc W) ⟨rfl, trivial⟩
          · intro a W hE hb hs
            have h0 : a.eval (.tmp 0) = .slice (some ⟨bb, bo, none⟩) n c := hb 0 (by decide)
            refine flow0 rfl ?_
            exact val_move _ rfl _ h0 ⟨rfl, trivial⟩
          · intro a W hE hb hs
            have h1 : a.eval (.tmp 1) = .slice (some ⟨ob, oo, none⟩) m d := hb 1 (by decide)
            refine flow0 rfl ?_
            exact val_move _ rfl _ h1 ⟨rfl, trivial⟩
          · intro a W hE hb hs
            have h6 : a.eval (.tmp 6) = .int .i64 (i : Int) := hb 6 (by decide)
            refine flow0 rfl ?_
            exact val_move _ rfl _ h6 ⟨rfl, trivial⟩
          · intro a W hE hb hs
            have h25 : a.eval (.tmp 25) = .slice (some ⟨ob, oo, none⟩) m d := hs 8 (by decide)
            have h26 : a.eval (.tmp 26) = .int .i64 (i : Int) := hs 9 (by decide)
            refine flow0 rfl ?_
            intro K hK
            unfold Oper.wp execOp
            simp only [h25, h26]
            simp [go_sem, i1]
            exact hK _ _ ⟨Below.refl _ _, rfl, trivial⟩
          · intro a W hE hb hs
            have h27 : a.eval (.tmp 27) = .pointer (some ⟨ob, oo + i, none⟩) := hs 10 (by decide)
            refine flow0 rfl ?_
            have c1 : W.cell? ⟨ob, oo + i, none⟩ = some (.int .i64 (q : Int)) := cell_ext hE hq1
            intro K hK
            unfold Oper.wp execOp
            simp only [h27]
            simp [go_sem, c1]
            exact hK _ _ ⟨Below.refl _ _, rfl, trivial⟩
          · intro a W hE hb hs
            have h24 : a.eval (.tmp 24) = .slice (some ⟨bb, bo, none⟩) n c := hs 7 (by decide)
            have h28 : a.eval (.tmp 28) = .int .i64 (q : Int) := hs 11 (by decide)
            refine flow0 rfl ?_
            exact val_slice_lo _ _ _ rfl (some ⟨bb, bo, none⟩) n c q h24 h28 (run_sliceAt_bytes bb bo n c q hqn hnc W) ⟨rfl, trivial⟩
          · intro a W hE hb hs
            have h23 : a.eval (.tmp 23) = .slice (some ⟨bb, bo + p, none⟩) (n - p) (c - p) := hs 6 (by decide)
            have h29 : a.eval (.tmp 29) = .slice (some ⟨bb, bo + q, none⟩) (n - q) (c - q) := hs 12 (by decide)
            refine flow0 rfl ?_
            exact val_call 21 _ _ rfl (by kernel_rfl) [.slice (some ⟨bb, bo + p, none⟩) (n - p) (c - p), .slice (some ⟨bb, bo + q, none⟩) (n - q) (c - q)] (by show [a.eval (.tmp 23), a.eval (.tmp 29)] = _; rw [h23, h29]) ((RShared_any _ _ _ _ _ _ (xs.drop p) (xs.drop q) W ((Hp.out).below (ext_below hE)) ((Hq.out).below (ext_below hE))).mono (by rw [← HS.out]; rintro e W' ⟨rfl, hb⟩; exact ⟨_, rfl, hb, rfl, trivial⟩))
          · intro a W hE hb hs
            have h30 : a.eval (.tmp 30) = .int .i64 (s : Int) := hs 13 (by decide)
            refine flow0 rfl ?_
            exact val_assign _ rfl _ h30 ⟨rfl, trivial⟩
        intro f W hb hT hp hd
        have e7 : f 7 = .int .i64 (s : Int) := hT 14 (by decide)
        have HbW := Lib.hid (HBr.out.trans (hb.mono hszr))
        have Hap := Lib.hid (Happ.out.below hb (Nat.le_refl _))
        have hszW := HbW.out.size
        simp only [putV, List.foldl_cons, List.foldl_nil, Act.put, List.setIfInBounds_toArray, List.set_cons_succ, List.set_cons_zero, Exit.then]
        rw [e7]
        clear hb hT hp hd e7 Happ hp1 hq1 HS
        go_wp2_with (at_builtin; go_loud (refine wpList_app rfl (.tmp 31) (.tmp 33) 25 rfl 3 i3 (.int .i64 0) 8 Try.underlying25 hi3 hz3 hs3 hy3 rfl w1.heap.size (by simp; omega) _ _ _ rfl (Hap.out.litE _) (some ⟨W.heap.size, 0, none⟩) 1 1 [natV s] rfl (lit_rdE _ _ _) (by simp [natV, Value.oneCell']) (by unfold maxLen; omega) (by omega) ?_; intro v1 w6 happ6 hb6))
        have HB6 := Lib.hid ((HbW.out.alloc hszW (.cells #[natV s] 3)).trans hb6)
        exact ⟨⟨i + 1, by go_num, by omega, by rw [Htk.out]; simpa using happ6, HB6.out⟩, by simp [intOf]; omega⟩
      · have d1 : decide ((i : Int) > 0) = false := decide_eq_false (by omega)
        have d1' : decide (0 < i) = false := decide_eq_false h0
        have hs0 : s = 0 := by rw [hs]; unfold comAt; rw [if_pos (by omega)]
        rw [hs0] at Htk
        clear hs0 hs s
        go_wp2_with (at_builtin; go_loud (refine wpList_app rfl (.tmp 31) (.tmp 33) 25 rfl 3 i3 (.int .i64 0) 8 Try.underlying25 hi3 hz3 hs3 hy3 rfl w1.heap.size (by simp; omega) _ _ _ rfl (Happ.out.litE _) (some ⟨wr.heap.size, 0, none⟩) 1 1 [natV 0] rfl (lit_rdE _ _ _) (by simp [natV, Value.oneCell']) (by unfold maxLen; omega) (by omega) ?_; intro v1 w6 happ6 hb6))
        have HB6 := Lib.hid ((HBr.out.alloc hszr (.cells #[natV 0] 3)).trans hb6)
        exact ⟨⟨i + 1, by go_num, by omega, by rw [Htk.out]; simpa using happ6, HB6.out⟩, by simp [intOf]; omega⟩
    · have he : i = m := by omega
      have h1 : (comL xs l).take i = comL xs l := List.take_of_length_le (by rw [comL_len, Hol.out]; omega)
      rw [h1] at Happ
      obtain ⟨A', c', rfl, hc', hR⟩ := Happ.out.rd
      have HR := Lib.hid (show Rd wr 1 A' m ((comL xs l).map natV) from he ▸ hR)
      have HBx := Lib.hid (HB.out.trans (HBr.out.mono HB.out.size))
      have hcm : m ≤ c' := by omega
      have d0 : decide ((i : Int) < (m : Int)) = false := decide_eq_false (by omega)
      have d1 : decide (i < m) = false := decide_eq_false hlt
      subst he
      clear h1 hR hlt
      go_wp2_with fail
      go_ret
      exact ⟨⟨A', c', rfl, hcm, HR.out⟩, HBx.out⟩
end Go.Proofs.Ytcelkneeedebiaa
