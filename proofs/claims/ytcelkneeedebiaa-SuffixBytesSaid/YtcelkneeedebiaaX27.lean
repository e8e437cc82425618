/- SuffixFinds: the walk. -/
import Derived.Test.YtcelkneeedebiaaX24
import Derived.Laws.IdiomStrings
namespace Go.Proofs.Ytcelkneeedebiaa
open Go Go.RowKit Go.Sort Go.Shelf

theorem Longest_lit (A O B : Option Addr) (n m k c d e : Nat) (xs ys : List UInt8) (l : List Nat) (w : World) (hx : Rd w 1 A n (xs.map byteV)) (ho : Rd w 1 O m (l.map natV)) (hy : Rd w 1 B k (ys.map byteV)) (hord : IsOrd xs l) (hnc : n ≤ c) (hke : k ≤ e) (hn : n ≤ 100000) (hk : k ≤ 100000) :
    Calls Try.prog 15 #[.slice A n c, .slice O m d, .slice B k e] w fun e w' => (∃ a L : Nat, e = .returned (.agg #[.int .i64 (a : Int), .int .i64 (L : Int)]) ∧ IsFound xs ys a L) ∧ Below w.heap.size w w' := Longest_any A O B n m k c d e xs ys l w hx ho hy hord hnc hke hn hk
theorem bytes_mid (A : Option Addr) {n c i j : Nat} (hij : i ≤ j) (hj : j ≤ n) (hc : n ≤ c) : ∃ A' : Option Addr, (∀ w, (Instr.sliceAt 22 (.slice A n c) (some (.int .i64 (i : Int))) (some (.int .i64 (j : Int))) none).run Try.prog w = .ok (.slice A' (j - i) (c - i)) w) ∧ ∀ (w : World) (xs : List UInt8), Rd w 1 A n (xs.map byteV) → Rd w 1 A' (j - i) (((xs.drop i).take (j - i)).map byteV) := by
  obtain ⟨iE, hi'⟩ : ∃ i, Try.prog.info? 5 = some i := by
    have := size5
    unfold Program.cellsOf at this
    cases h : Try.prog.info? 5 with
    | none => simp [h] at this
    | some i => exact ⟨i, rfl⟩
  refine ⟨if c = i then A else A.map fun x => x.add (i * 1), fun w => ?_, fun w xs h => ?_⟩
  · rw [run_sliceAt_slice _ _ _ _ _ _ und22e, run_slice_lh (P := Try.prog) w 22 A n c und22e .i64 .i64 (i : Int) (j : Int) (by omega) (by omega) (by omega), elem22, run_sizeOf w hi', size5]
    simp only [Result.andThen_ok, sliced, Int.toNat_natCast]
  · have hxl := h.len1
    refine ⟨by rw [List.length_map, List.length_take, List.length_drop]; omega, by have := h.2.1; omega, fun hp => ?_⟩
    obtain ⟨b, off, e, hcell⟩ := h.2.2 (by omega)
    subst e
    rw [if_neg (by omega)]
    refine ⟨b, off + i, ?_, fun t u hu => ?_⟩
    · simp only [Option.map_some, Nat.mul_one]
      unfold Addr.add; split <;> simp_all
    · rw [Nat.add_assoc]
      refine hcell (i + t) u ?_
      rw [List.map_take, List.getElem?_take] at hu
      split at hu
      · rwa [List.map_drop, List.getElem?_drop] at hu
      · cases hu
section
variable {P : Program} {Q : Exit → Act → World → Prop} {o : Oper} {a : Act} {W : World}
theorem val_slice_lh {R : Value → World → Prop} (t : TypeId) (x y z : Operand) (ho : o.op = .slice t x (some y) (some z) none) (A : Option Addr) (n c i j : Nat) (hx : a.eval x = .slice A n c) (hy : a.eval y = .int .i64 (i : Int)) (hz : a.eval z = .int .i64 (j : Int)) {u : Value} (hr : (Instr.sliceAt t (.slice A n c) (some (.int .i64 (i : Int))) (some (.int .i64 (j : Int))) none).run P W = .ok u W) (h : R u W) : Val P Q o a W (fun v W' => Below W.heap.size W W' ∧ R v W') := fun K hK => by
  unfold Oper.wp execOp
  simp only [ho, Option.map_none, Option.map_some, hx, hy, hz, Sem.run_bind, hr, Result.andThen_ok]
  exact hK _ _ ⟨Below.refl _ _, h⟩
theorem val_slice_h {R : Value → World → Prop} (t : TypeId) (x z : Operand) (ho : o.op = .slice t x none (some z) none) (A : Option Addr) (n c j : Nat) (hx : a.eval x = .slice A n c) (hz : a.eval z = .int .i64 (j : Int)) {u : Value} (hr : (Instr.sliceAt t (.slice A n c) none (some (.int .i64 (j : Int))) none).run P W = .ok u W) (h : R u W) : Val P Q o a W (fun v W' => Below W.heap.size W W' ∧ R v W') := fun K hK => by
  unfold Oper.wp execOp
  simp only [ho, Option.map_none, Option.map_some, hx, hz, Sem.run_bind, hr, Result.andThen_ok]
  exact hK _ _ ⟨Below.refl _ _, h⟩
theorem val_convert {R : Value → World → Prop} (src dst : TypeId) (x : Operand) (ho : o.op = .convert src dst x) (v : Value) (hx : a.eval x = v) {u : Value} (hr : (convert src dst v).run P W = .ok u W) (h : R u W) : Val P Q o a W (fun v W' => Below W.heap.size W W' ∧ R v W') := fun K hK => by
  unfold Oper.wp execOp
  simp only [ho, hx, Sem.run_bind, hr, Result.andThen_ok]
  exact hK _ _ ⟨Below.refl _ _, h⟩
end
theorem run_str {w : World} {A : Option Addr} {n c : Nat} {xs : List UInt8} (h : Rd w 1 A n (xs.map byteV)) : (convert 22 9 (.slice A n c)).run Try.prog w = .ok (.string ⟨xs.toArray⟩) w := by
  have hl := h.len1
  cases A with
  | none =>
    have h0 : n = 0 := Nat.eq_zero_of_not_pos fun q => by obtain ⟨b, off, e, _⟩ := h.2.2 q; cases e
    subst h0
    rw [List.length_eq_zero_iff.1 hl, run_convert_bytes_string w 22 9 5 none 0 c Try.underlying22 und5u Try.underlying9]
    rfl
  | some a =>
    subst hl
    refine run_convert_bytes_back w 22 9 5 a c xs Try.underlying22 und5u Try.underlying9 fun j hj => ?_
    obtain ⟨b, off, e, hcell⟩ := h.2.2 (by omega)
    cases e
    have e2 : (⟨b, off, none⟩ : Addr).add j = ⟨b, off + j, none⟩ := by unfold Addr.add; split <;> simp_all
    rw [e2]
    exact hcell j _ (by rw [List.getElem?_map, List.getElem?_eq_getElem hj]; rfl)
set_option maxRecDepth 100000 in
set_option maxHeartbeats 4000000 in
theorem SuffixFinds_any (A : Option Addr) (n c : Nat) (xs : List UInt8) (B : Option Addr) (m d : Nat) (ys : List UInt8) (w : World) (hx : Rd w 1 A n (xs.map byteV)) (hc : n ≤ c) (hy : Rd w 1 B m (ys.map byteV)) (hd : m ≤ d) :
    Calls Try.prog 5 #[.slice A n c, .slice B m d] w fun e w' => e = .returned (.bool true) ∧ Below w.heap.size w w' := by
  have Hx := Lib.hid hx
  have Hy := Lib.hid hy
  have HB := Lib.hid (Below.refl w.heap.size w)
  clear hx hy
  go_enter Try.func5, Try.ntmps5
  go_wp2_with fail
  refine (sanity_any w).mono ?_
  rintro e_ v1 ⟨rfl, hb_⟩
  replace Hx := Lib.hid (Hx.out.below hb_)
  replace Hy := Lib.hid (Hy.out.below hb_)
  replace HB := Lib.hid (HB.out.trans (hb_.mono HB.out.size))
  clear hb_
  go_wp2_with fail
  refine (Limited_any A n c 100 xs v1 Hx.out hc (by decide)).mono ?_
  rintro e_ v2 ⟨⟨n1, rfl, hn1c, hn1K, hr_⟩, hw_⟩
  subst hw_
  obtain ⟨X, hX⟩ : ∃ B, B = xs.take 100 := ⟨_, rfl⟩
  rw [← hX] at hr_
  have HX := Lib.hid hr_
  have HXl := Lib.hid (show X.length = n1 from hr_.len1)
  clear hr_ hX
  go_wp2_with fail
  refine (Limited_any B m d 60 ys v2 Hy.out hd (by decide)).mono ?_
  rintro e_ v3 ⟨⟨m1, rfl, hm1c, hm1K, hr_⟩, hw_⟩
  subst hw_
  obtain ⟨Y, hY⟩ : ∃ B, B = ys.take 60 := ⟨_, rfl⟩
  rw [← hY] at hr_
  have HY := Lib.hid hr_
  have HYl := Lib.hid (show Y.length = m1 from hr_.len1)
  clear hr_ hY
  clear Hx Hy
  go_wp2_with fail
  refine (ROrder_any A n1 c X v3 HX.out hn1c (by omega)).mono ?_
  rintro e_ v4 ⟨⟨O, oc, l, rfl, hoc, ho, hord⟩, hb_⟩
  replace HB := Lib.hid (HB.out.trans (hb_.mono HB.out.size))
  replace HX := Lib.hid (HX.out.below hb_)
  replace HY := Lib.hid (HY.out.below hb_)
  clear hb_
  have HO := Lib.hid ho
  have Hord := Lib.hid hord
  clear ho hord
  go_wp2_with fail
  refine (Longest_lit A O B n1 n1 m1 c oc d X Y l v4 HX.out HO.out HY.out Hord.out hn1c hm1c (by omega) (by omega)).mono ?_
  rintro e_ v5 ⟨⟨a0, L, rfl, hf⟩, hb_⟩
  replace HB := Lib.hid (HB.out.trans (hb_.mono HB.out.size))
  replace HX := Lib.hid (HX.out.below hb_)
  replace HY := Lib.hid (HY.out.below hb_)
  replace HO := Lib.hid (HO.out.below hb_)
  clear hb_
  have HF := Lib.hid hf
  clear hf HO Hord
  go_upto_region 5 with fail
  obtain ⟨w9, hw9⟩ : ∃ v, v = v5.alloc (.cells #[.int .i64 (a0 : Int), .int .i64 (L : Int)] 29) := ⟨_, rfl⟩
  obtain ⟨X8, hX8⟩ : ∃ v, v = v5.heap.size := ⟨_, rfl⟩
  have HB8 := Lib.hid (show Blk w9 X8 29 (fdV (a0 : Int) (L : Int)).toArray by rw [hw9]; exact blk_newB hX8)
  have hb_ : Below v5.heap.size v5 w9 := by rw [hw9]; exact (Below.refl _ _).alloc (Nat.le_refl _) _
  rw [← hw9, ← hX8]
  clear hw9 hX8
  replace HB := Lib.hid (HB.out.trans (hb_.mono HB.out.size))
  replace HX := Lib.hid (HX.out.below hb_)
  replace HY := Lib.hid (HY.out.below hb_)
  clear hb_
  have hst := HF.out.stands
  have hLm : L ≤ m1 := by rw [← HYl.out]; exact hst.1
  have haL : a0 + L ≤ n1 := by rw [← HXl.out]; exact hst.2.1
  have Hz := Lib.hid hst.2.2.1
  have Hstr := Lib.hid hst.2.2.2
  clear hst
  obtain ⟨A2, hA2, hAr⟩ := bytes_mid A (n := n1) (c := c) (i := a0) (j := a0 + L) (by omega) haL hn1c
  rw [show a0 + L - a0 = L by omega] at hA2 hAr
  have HAr := Lib.hid hAr
  have HA2 := Lib.hid hA2
  clear hAr hA2
  have c80 : w9.cell? ⟨X8, 0, none⟩ = some (.int .i64 (a0 : Int)) := by rw [HB8.out.cell]; rfl
  have c81 : w9.cell? ⟨X8, 1, none⟩ = some (.int .i64 (L : Int)) := by rw [HB8.out.cell]; rfl
  have z1 : decide ((L : Int) < 0) = false := decide_eq_false (by omega)
  have z2 : decide ((L : Int) > (m1 : Int)) = false := decide_eq_false (by omega)
  have z2n : decide (m1 < L) = false := decide_eq_false (by omega)
  have z3 : decide ((a0 : Int) < 0) = false := decide_eq_false (by omega)
  have wa : IntKind.i64.wrap ((a0 : Int) + (L : Int)) = ((a0 + L : Nat) : Int) := by simp [IntKind.wrap, IntKind.bits, IntKind.signed]; omega
  have z4 : decide (((a0 + L : Nat) : Int) > (n1 : Int)) = false := decide_eq_false (by omega)
  have z4n : decide (n1 < a0 + L) = false := decide_eq_false (by omega)
  have z4m : ¬ ((n1 : Int) < (a0 : Int) + (L : Int)) := by omega
  obtain ⟨S, hS⟩ : ∃ S, S = Y.take L := ⟨_, rfl⟩
  have HS2 := Lib.hid hS.symm
  have HS := Lib.hid (show (X.drop a0).take L = S by rw [hS]; exact Hstr.out)
  clear hS Hstr
  by_cases h0 : L = 0
  · have q1 : ((L : Int) == 0) = true := by rw [h0]; rfl
    have q2 : (L == 0) = true := by rw [h0]; rfl
    have ha0 : a0 = 0 := Hz.out h0
    have q3 : ((a0 : Int) != 0) = false := by rw [ha0]; rfl
    have q4 : (a0 != 0) = false := by rw [ha0]; rfl
    clear h0 ha0 Hz
    refine wp_region_flowF [21, 22, 23, 24, 25, 26, 27, 28, 29, 30, 31, 32, 33, 34, 35, 36, 37, 38, 39, 40, 41, 42, 43, 44, 45, 46, 47, 48, 49, 50, 51, 52, 53, 54, 55, 56, 57, 58, 59, 60, 61, 62, 63, 64, 65, 66, 67, 68, 69, 70, 71, 72, 73] [(Spec.is (.pointer (some ⟨X8, 1, none⟩)), false), (Spec.is (.int .i64 (L : Int)), false), (Spec.is (.bool false), false), (Spec.is (.bool false), false), (Spec.is (.pointer (some ⟨X8, 1, none⟩)), false), (Spec.is (.int .i64 (L : Int)), false), (Spec.is (.slice B m1 d), false), (Spec.is (.int .i64 (m1 : Int)), false), (Spec.is (.bool false), false), (Spec.is (.bool false), false), (Spec.is (.bool false), false), (Spec.is (.pointer (some ⟨X8, 0, none⟩)), false), (Spec.is (.int .i64 (a0 : Int)), false), (Spec.is (.bool false), false), (Spec.is (.bool false), false), (Spec.is (.bool false), false), (Spec.is (.pointer (some ⟨X8, 0, none⟩)), false), (Spec.is (.int .i64 (a0 : Int)), false), (Spec.is (.pointer (some ⟨X8, 1, none⟩)), false), (Spec.is (.int .i64 (L : Int)), false), (Spec.is (.int .i64 ((a0 + L : Nat) : Int)), false), (Spec.is (.slice A n1 c), false), (Spec.is (.int .i64 (n1 : Int)), false), (Spec.is (.bool false), false), (Spec.is (.bool false), false), (Spec.is (.bool false), false), (Spec.is (.pointer (some ⟨X8, 1, none⟩)), false), (Spec.is (.int .i64 (L : Int)), false), (Spec.is (.bool true), false), (Spec.is (.bool true), false), (Spec.is (.pointer (some ⟨X8, 0, none⟩)), false), (Spec.is (.int .i64 (a0 : Int)), false), (Spec.is (.bool false), false), (Spec.is (.bool false), false), (Spec.is (.bool false), false), (Spec.is (.bool false), false), (Spec.is (.slice A n1 c), false), (Spec.is (.pointer (some ⟨X8, 0, none⟩)), false), (Spec.is (.int .i64 (a0 : Int)), false), (Spec.is (.pointer (some ⟨X8, 0, none⟩)), false), (Spec.is (.int .i64 (a0 : Int)), false), (Spec.is (.pointer (some ⟨X8, 1, none⟩)), false), (Spec.is (.int .i64 (L : Int)), false), (Spec.is (.int .i64 ((a0 + L : Nat) : Int)), false), (Spec.is (.slice A2 L (c - a0)), false), (Spec.is (.string ⟨S.toArray⟩), false), (Spec.is (.slice B m1 d), false), (Spec.is (.pointer (some ⟨X8, 1, none⟩)), false), (Spec.is (.int .i64 (L : Int)), false), (Spec.is (.slice B L d), false), (Spec.is (.string ⟨S.toArray⟩), false), (Spec.is (.bool false), false), (Spec.is (.bool false), false)] 106 (by kernel_rfl) rfl (by decide) rfl (by decide) (by kernel_rfl) ?_ ?_
    · refine ⟨?_, ?_, ?_, ?_, ?_, ?_, ?_, ?_, ?_, ?_, ?_, ?_, ?_, ?_, ?_, ?_, ?_, ?_, ?_, ?_, ?_, ?_, ?_, ?_, ?_, ?_, ?_, ?_, ?_, ?_, ?_, ?_, ?_, ?_, ?_, ?_, ?_, ?_, ?_, ?_, ?_, ?_, ?_, ?_, ?_, ?_, ?_, ?_, ?_, ?_, ?_, ?_, ?_, trivial⟩
      · intro a W hE hb hs
        have h8 : a.eval (.tmp 8) = .pointer (some ⟨X8, 0, none⟩) := hb 8 (by decide)
        refine flow0 rfl ?_
        intro K hK
        unfold Oper.wp execOp
        simp only [h8]
        simp [go_sem]
        exact hK _ _ ⟨Below.refl _ _, rfl, trivial⟩
      · intro a W hE hb hs
        have h21 : a.eval (.tmp 21) = .pointer (some ⟨X8, 1, none⟩) := hs 0 (by decide)
        refine flow0 rfl ?_
        have c1 : W.cell? ⟨X8, 1, none⟩ = some (.int .i64 (L : Int)) := cell_ext hE c81
        intro K hK
        unfold Oper.wp execOp
        simp only [h21]
        simp [go_sem, c1]
        exact hK _ _ ⟨Below.refl _ _, rfl, trivial⟩
      · intro a W hE hb hs
        have h22 : a.eval (.tmp 22) = .int .i64 (L : Int) := hs 1 (by decide)
        refine flow0 rfl ?_
        intro K hK
        unfold Oper.wp execOp
        simp only [h22, BigFrame.eval_const]
        simp [go_sem, z1]
        exact hK _ _ ⟨Below.refl _ _, rfl, trivial⟩
      · intro a W hE hb hs
        have h23 : a.eval (.tmp 23) = .bool false := hs 2 (by decide)
        refine flow0 rfl ?_
        exact val_move _ rfl _ h23 ⟨rfl, trivial⟩
      · intro a W hE hb hs
        have h8 : a.eval (.tmp 8) = .pointer (some ⟨X8, 0, none⟩) := hb 8 (by decide)
        have h24 : a.eval (.tmp 24) = .bool false := hs 3 (by decide)
        refine flowY rfl rfl h24 ?_
        intro K hK
        unfold Oper.wp execOp
        simp only [h8]
        simp [go_sem]
        exact hK _ _ ⟨Below.refl _ _, rfl, trivial⟩
      · intro a W hE hb hs
        have h25 : a.eval (.tmp 25) = .pointer (some ⟨X8, 1, none⟩) := hs 4 (by decide)
        have h24 : a.eval (.tmp 24) = .bool false := hs 3 (by decide)
        refine flowY rfl rfl h24 ?_
        have c1 : W.cell? ⟨X8, 1, none⟩ = some (.int .i64 (L : Int)) := cell_ext hE c81
        intro K hK
        unfold Oper.wp execOp
        simp only [h25]
        simp [go_sem, c1]
        exact hK _ _ ⟨Below.refl _ _, rfl, trivial⟩
      · intro a W hE hb hs
        have h7 : a.eval (.tmp 7) = .slice B m1 d := hb 7 (by decide)
        have h24 : a.eval (.tmp 24) = .bool false := hs 3 (by decide)
        refine flowY rfl rfl h24 ?_
        exact val_move _ rfl _ h7 ⟨rfl, trivial⟩
      · intro a W hE hb hs
        have h27 : a.eval (.tmp 27) = .slice B m1 d := hs 6 (by decide)
        have h24 : a.eval (.tmp 24) = .bool false := hs 3 (by decide)
        refine flowY rfl rfl h24 ?_
        exact val_len _ 22 5 rfl Try.underlying22 _ _ _ h27 ⟨rfl, trivial⟩
      · intro a W hE hb hs
        have h26 : a.eval (.tmp 26) = .int .i64 (L : Int) := hs 5 (by decide)
        have h28 : a.eval (.tmp 28) = .int .i64 (m1 : Int) := hs 7 (by decide)
        have h24 : a.eval (.tmp 24) = .bool false := hs 3 (by decide)
        refine flowY rfl rfl h24 ?_
        intro K hK
        unfold Oper.wp execOp
        simp only [h26, h28]
        simp [go_sem, z2n]
        exact hK _ _ ⟨Below.refl _ _, rfl, trivial⟩
      · intro a W hE hb hs
        have h24 : a.eval (.tmp 24) = .bool false := hs 3 (by decide)
        have h29 : a.eval (.tmp 29) = .bool false := hs 8 (by decide)
        refine flow0 rfl ?_
        exact val_pick _ _ _ rfl false h24 _ (by rw [if_neg (by decide)]; exact h29) ⟨rfl, trivial⟩
      · intro a W hE hb hs
        have h30 : a.eval (.tmp 30) = .bool false := hs 9 (by decide)
        refine flow0 rfl ?_
        exact val_move _ rfl _ h30 ⟨rfl, trivial⟩
      · intro a W hE hb hs
        have h8 : a.eval (.tmp 8) = .pointer (some ⟨X8, 0, none⟩) := hb 8 (by decide)
        have h31 : a.eval (.tmp 31) = .bool false := hs 10 (by decide)
        refine flowY rfl rfl h31 ?_
        intro K hK
        unfold Oper.wp execOp
        simp only [h8]
        simp [go_sem]
        exact hK _ _ ⟨Below.refl _ _, rfl, trivial⟩
      · intro a W hE hb hs
        have h32 : a.eval (.tmp 32) = .pointer (some ⟨X8, 0, none⟩) := hs 11 (by decide)
        have h31 : a.eval (.tmp 31) = .bool false := hs 10 (by decide)
        refine flowY rfl rfl h31 ?_
        have c1 : W.cell? ⟨X8, 0, none⟩ = some (.int .i64 (a0 : Int)) := cell_ext hE c80
        intro K hK
        unfold Oper.wp execOp
        simp only [h32]
        simp [go_sem, c1]
        exact hK _ _ ⟨Below.refl _ _, rfl, trivial⟩
      · intro a W hE hb hs
        have h33 : a.eval (.tmp 33) = .int .i64 (a0 : Int) := hs 12 (by decide)
        have h31 : a.eval (.tmp 31) = .bool false := hs 10 (by decide)
        refine flowY rfl rfl h31 ?_
        intro K hK
        unfold Oper.wp execOp
        simp only [h33, BigFrame.eval_const]
        simp [go_sem, z3]
        exact hK _ _ ⟨Below.refl _ _, rfl, trivial⟩
      · intro a W hE hb hs
        have h31 : a.eval (.tmp 31) = .bool false := hs 10 (by decide)
        have h34 : a.eval (.tmp 34) = .bool false := hs 13 (by decide)
        refine flow0 rfl ?_
        exact val_pick _ _ _ rfl false h31 _ (by rw [if_neg (by decide)]; exact h34) ⟨rfl, trivial⟩
      · intro a W hE hb hs
        have h35 : a.eval (.tmp 35) = .bool false := hs 14 (by decide)
        refine flow0 rfl ?_
        exact val_move _ rfl _ h35 ⟨rfl, trivial⟩
      · intro a W hE hb hs
        have h8 : a.eval (.tmp 8) = .pointer (some ⟨X8, 0, none⟩) := hb 8 (by decide)
        have h36 : a.eval (.tmp 36) = .bool false := hs 15 (by decide)
        refine flowY rfl rfl h36 ?_
        intro K hK
        unfold Oper.wp execOp
        simp only [h8]
        simp [go_sem]
        exact hK _ _ ⟨Below.refl _ _, rfl, trivial⟩
      · intro a W hE hb hs
        have h37 : a.eval (.tmp 37) = .pointer (some ⟨X8, 0, none⟩) := hs 16 (by decide)
        have h36 : a.eval (.tmp 36) = .bool false := hs 15 (by decide)
        refine flowY rfl rfl h36 ?_
        have c1 : W.cell? ⟨X8, 0, none⟩ = some (.int .i64 (a0 : Int)) := cell_ext hE c80
        intro K hK
        unfold Oper.wp execOp
        simp only [h37]
        simp [go_sem, c1]
        exact hK _ _ ⟨Below.refl _ _, rfl, trivial⟩
      · intro a W hE hb hs
        have h8 : a.eval (.tmp 8) = .pointer (some ⟨X8, 0, none⟩) := hb 8 (by decide)
        have h36 : a.eval (.tmp 36) = .bool false := hs 15 (by decide)
        refine flowY rfl rfl h36 ?_
        intro K hK
        unfold Oper.wp execOp
        simp only [h8]
        simp [go_sem]
        exact hK _ _ ⟨Below.refl _ _, rfl, trivial⟩
      · intro a W hE hb hs
        have h39 : a.eval (.tmp 39) = .pointer (some ⟨X8, 1, none⟩) := hs 18 (by decide)
        have h36 : a.eval (.tmp 36) = .bool false := hs 15 (by decide)
        refine flowY rfl rfl h36 ?_
        have c1 : W.cell? ⟨X8, 1, none⟩ = some (.int .i64 (L : Int)) := cell_ext hE c81
        intro K hK
        unfold Oper.wp execOp
        simp only [h39]
        simp [go_sem, c1]
        exact hK _ _ ⟨Below.refl _ _, rfl, trivial⟩
      · intro a W hE hb hs
        have h38 : a.eval (.tmp 38) = .int .i64 (a0 : Int) := hs 17 (by decide)
        have h40 : a.eval (.tmp 40) = .int .i64 (L : Int) := hs 19 (by decide)
        have h36 : a.eval (.tmp 36) = .bool false := hs 15 (by decide)
        refine flowY rfl rfl h36 ?_
        intro K hK
        unfold Oper.wp execOp
        simp only [h38, h40]
        simp [go_sem, wa]
        exact hK _ _ ⟨Below.refl _ _, rfl, trivial⟩
      · intro a W hE hb hs
        have h6 : a.eval (.tmp 6) = .slice A n1 c := hb 6 (by decide)
        have h36 : a.eval (.tmp 36) = .bool false := hs 15 (by decide)
        refine flowY rfl rfl h36 ?_
        exact val_move _ rfl _ h6 ⟨rfl, trivial⟩
      · intro a W hE hb hs
        have h42 : a.eval (.tmp 42) = .slice A n1 c := hs 21 (by decide)
        have h36 : a.eval (.tmp 36) = .bool false := hs 15 (by decide)
        refine flowY rfl rfl h36 ?_
        exact val_len _ 22 5 rfl Try.underlying22 _ _ _ h42 ⟨rfl, trivial⟩
      · intro a W hE hb hs
        have h41 : a.eval (.tmp 41) = .int .i64 ((a0 + L : Nat) : Int) := hs 20 (by decide)
        have h43 : a.eval (.tmp 43) = .int .i64 (n1 : Int) := hs 22 (by decide)
        have h36 : a.eval (.tmp 36) = .bool false := hs 15 (by decide)
        refine flowY rfl rfl h36 ?_
        intro K hK
        unfold Oper.wp execOp
        simp only [h41, h43]
        simp [go_sem, z4m]
        exact hK _ _ ⟨Below.refl _ _, rfl, trivial⟩
      · intro a W hE hb hs
        have h36 : a.eval (.tmp 36) = .bool false := hs 15 (by decide)
        have h44 : a.eval (.tmp 44) = .bool false := hs 23 (by decide)
        refine flow0 rfl ?_
        exact val_pick _ _ _ rfl false h36 _ (by rw [if_neg (by decide)]; exact h44) ⟨rfl, trivial⟩
      · intro a W hE hb hs
        have h45 : a.eval (.tmp 45) = .bool false := hs 24 (by decide)
        refine flow0 rfl ?_
        exact val_move _ rfl _ h45 ⟨rfl, trivial⟩
      · intro a W hE hb hs
        have h8 : a.eval (.tmp 8) = .pointer (some ⟨X8, 0, none⟩) := hb 8 (by decide)
        have h46 : a.eval (.tmp 46) = .bool false := hs 25 (by decide)
        refine flowY rfl rfl h46 ?_
        intro K hK
        unfold Oper.wp execOp
        simp only [h8]
        simp [go_sem]
        exact hK _ _ ⟨Below.refl _ _, rfl, trivial⟩
      · intro a W hE hb hs
        have h47 : a.eval (.tmp 47) = .pointer (some ⟨X8, 1, none⟩) := hs 26 (by decide)
        have h46 : a.eval (.tmp 46) = .bool false := hs 25 (by decide)
        refine flowY rfl rfl h46 ?_
        have c1 : W.cell? ⟨X8, 1, none⟩ = some (.int .i64 (L : Int)) := cell_ext hE c81
        intro K hK
        unfold Oper.wp execOp
        simp only [h47]
        simp [go_sem, c1]
        exact hK _ _ ⟨Below.refl _ _, rfl, trivial⟩
      · intro a W hE hb hs
        have h48 : a.eval (.tmp 48) = .int .i64 (L : Int) := hs 27 (by decide)
        have h46 : a.eval (.tmp 46) = .bool false := hs 25 (by decide)
        refine flowY rfl rfl h46 ?_
        intro K hK
        unfold Oper.wp execOp
        simp only [h48, BigFrame.eval_const]
        simp [go_sem, q1]
        exact hK _ _ ⟨Below.refl _ _, rfl, trivial⟩
      · intro a W hE hb hs
        have h49 : a.eval (.tmp 49) = .bool true := hs 28 (by decide)
        have h46 : a.eval (.tmp 46) = .bool false := hs 25 (by decide)
        refine flowY rfl rfl h46 ?_
        exact val_move _ rfl _ h49 ⟨rfl, trivial⟩
      · intro a W hE hb hs
        have h8 : a.eval (.tmp 8) = .pointer (some ⟨X8, 0, none⟩) := hb 8 (by decide)
        have h50 : a.eval (.tmp 50) = .bool true := hs 29 (by decide)
        refine flowY rfl rfl h50 ?_
        intro K hK
        unfold Oper.wp execOp
        simp only [h8]
        simp [go_sem]
        exact hK _ _ ⟨Below.refl _ _, rfl, trivial⟩
      · intro a W hE hb hs
        have h51 : a.eval (.tmp 51) = .pointer (some ⟨X8, 0, none⟩) := hs 30 (by decide)
        have h50 : a.eval (.tmp 50) = .bool true := hs 29 (by decide)
        refine flowY rfl rfl h50 ?_
        have c1 : W.cell? ⟨X8, 0, none⟩ = some (.int .i64 (a0 : Int)) := cell_ext hE c80
        intro K hK
        unfold Oper.wp execOp
        simp only [h51]
        simp [go_sem, c1]
        exact hK _ _ ⟨Below.refl _ _, rfl, trivial⟩
      · intro a W hE hb hs
        have h52 : a.eval (.tmp 52) = .int .i64 (a0 : Int) := hs 31 (by decide)
        have h50 : a.eval (.tmp 50) = .bool true := hs 29 (by decide)
        refine flowY rfl rfl h50 ?_
        intro K hK
        unfold Oper.wp execOp
        simp only [h52, BigFrame.eval_const]
        simp [go_sem, q3]
        exact hK _ _ ⟨Below.refl _ _, rfl, trivial⟩
      · intro a W hE hb hs
        have h50 : a.eval (.tmp 50) = .bool true := hs 29 (by decide)
        have h53 : a.eval (.tmp 53) = .bool false := hs 32 (by decide)
        have h46 : a.eval (.tmp 46) = .bool false := hs 25 (by decide)
        refine flowY rfl rfl h46 ?_
        exact val_pick _ _ _ rfl true h50 _ (by rw [if_pos rfl]; exact h53) ⟨rfl, trivial⟩
      · intro a W hE hb hs
        have h46 : a.eval (.tmp 46) = .bool false := hs 25 (by decide)
        have h54 : a.eval (.tmp 54) = .bool false := hs 33 (by decide)
        refine flow0 rfl ?_
        exact val_pick _ _ _ rfl false h46 _ (by rw [if_neg (by decide)]; exact h54) ⟨rfl, trivial⟩
      · intro a W hE hb hs
        have h55 : a.eval (.tmp 55) = .bool false := hs 34 (by decide)
        refine flow0 rfl ?_
        exact val_move _ rfl _ h55 ⟨rfl, trivial⟩
      · intro a W hE hb hs
        have h6 : a.eval (.tmp 6) = .slice A n1 c := hb 6 (by decide)
        have h56 : a.eval (.tmp 56) = .bool false := hs 35 (by decide)
        refine flowY rfl rfl h56 ?_
        exact val_move _ rfl _ h6 ⟨rfl, trivial⟩
      · intro a W hE hb hs
        have h8 : a.eval (.tmp 8) = .pointer (some ⟨X8, 0, none⟩) := hb 8 (by decide)
        have h56 : a.eval (.tmp 56) = .bool false := hs 35 (by decide)
        refine flowY rfl rfl h56 ?_
        intro K hK
        unfold Oper.wp execOp
        simp only [h8]
        simp [go_sem]
        exact hK _ _ ⟨Below.refl _ _, rfl, trivial⟩
      · intro a W hE hb hs
        have h58 : a.eval (.tmp 58) = .pointer (some ⟨X8, 0, none⟩) := hs 37 (by decide)
        have h56 : a.eval (.tmp 56) = .bool false := hs 35 (by decide)
        refine flowY rfl rfl h56 ?_
        have c1 : W.cell? ⟨X8, 0, none⟩ = some (.int .i64 (a0 : Int)) := cell_ext hE c80
        intro K hK
        unfold Oper.wp execOp
        simp only [h58]
        simp [go_sem, c1]
        exact hK _ _ ⟨Below.refl _ _, rfl, trivial⟩
      · intro a W hE hb hs
        have h8 : a.eval (.tmp 8) = .pointer (some ⟨X8, 0, none⟩) := hb 8 (by decide)
        have h56 : a.eval (.tmp 56) = .bool false := hs 35 (by decide)
        refine flowY rfl rfl h56 ?_
        intro K hK
        unfold Oper.wp execOp
        simp only [h8]
        simp [go_sem]
        exact hK _ _ ⟨Below.refl _ _, rfl, trivial⟩
      · intro a W hE hb hs
        have h60 : a.eval (.tmp 60) = .pointer (some ⟨X8, 0, none⟩) := hs 39 (by decide)
        have h56 : a.eval (.tmp 56) = .bool false := hs 35 (by decide)
        refine flowY rfl rfl h56 ?_
        have c1 : W.cell? ⟨X8, 0, none⟩ = some (.int .i64 (a0 : Int)) := cell_ext hE c80
        intro K hK
        unfold Oper.wp execOp
        simp only [h60]
        simp [go_sem, c1]
        exact hK _ _ ⟨Below.refl _ _, rfl, trivial⟩
      · intro a W hE hb hs
        have h8 : a.eval (.tmp 8) = .pointer (some ⟨X8, 0, none⟩) := hb 8 (by decide)
        have h56 : a.eval (.tmp 56) = .bool false := hs 35 (by decide)
        refine flowY rfl rfl h56 ?_
        intro K hK
        unfold Oper.wp execOp
        simp only [h8]
        simp [go_sem]
        exact hK _ _ ⟨Below.refl _ _, rfl, trivial⟩
      · intro a W hE hb hs
        have h62 : a.eval (.tmp 62) = .pointer (some ⟨X8, 1, none⟩) := hs 41 (by decide)
        have h56 : a.eval (.tmp 56) = .bool false := hs 35 (by decide)
        refine flowY rfl rfl h56 ?_
        have c1 : W.cell? ⟨X8, 1, none⟩ = some (.int .i64 (L : Int)) := cell_ext hE c81
        intro K hK
        unfold Oper.wp execOp
        simp only [h62]
        simp [go_sem, c1]
        exact hK _ _ ⟨Below.refl _ _, rfl, trivial⟩
      · intro a W hE hb hs
        have h61 : a.eval (.tmp 61) = .int .i64 (a0 : Int) := hs 40 (by decide)
        have h63 : a.eval (.tmp 63) = .int .i64 (L : Int) := hs 42 (by decide)
        have h56 : a.eval (.tmp 56) = .bool false := hs 35 (by decide)
        refine flowY rfl rfl h56 ?_
        intro K hK
        unfold Oper.wp execOp
        simp only [h61, h63]
        simp [go_sem, wa]
        exact hK _ _ ⟨Below.refl _ _, rfl, trivial⟩
      · intro a W hE hb hs
        have h57 : a.eval (.tmp 57) = .slice A n1 c := hs 36 (by decide)
        have h59 : a.eval (.tmp 59) = .int .i64 (a0 : Int) := hs 38 (by decide)
        have h64 : a.eval (.tmp 64) = .int .i64 ((a0 + L : Nat) : Int) := hs 43 (by decide)
        have h56 : a.eval (.tmp 56) = .bool false := hs 35 (by decide)
        refine flowY rfl rfl h56 ?_
        exact val_slice_lh _ _ _ _ rfl A n1 c a0 (a0 + L) h57 h59 h64 (HA2.out W) ⟨rfl, trivial⟩
      · intro a W hE hb hs
        have h65 : a.eval (.tmp 65) = .slice A2 L (c - a0) := hs 44 (by decide)
        have h56 : a.eval (.tmp 56) = .bool false := hs 35 (by decide)
        refine flowY rfl rfl h56 ?_
        exact val_convert _ _ _ rfl _ h65 (by rw [run_str (HAr.out W X (HX.out.below (ext_below hE))), HS.out]) ⟨rfl, trivial⟩
      · intro a W hE hb hs
        have h7 : a.eval (.tmp 7) = .slice B m1 d := hb 7 (by decide)
        have h56 : a.eval (.tmp 56) = .bool false := hs 35 (by decide)
        refine flowY rfl rfl h56 ?_
        exact val_move _ rfl _ h7 ⟨rfl, trivial⟩
      · intro a W hE hb hs
        have h8 : a.eval (.tmp 8) = .pointer (some ⟨X8, 0, none⟩) := hb 8 (by decide)
        have h56 : a.eval (.tmp 56) = .bool false := hs 35 (by decide)
        refine flowY rfl rfl h56 ?_
        intro K hK
        unfold Oper.wp execOp
        simp only [h8]
        simp [go_sem]
        exact hK _ _ ⟨Below.refl _ _, rfl, trivial⟩
      · intro a W hE hb hs
        have h68 : a.eval (.tmp 68) = .pointer (some ⟨X8, 1, none⟩) := hs 47 (by decide)
        have h56 : a.eval (.tmp 56) = .bool false := hs 35 (by decide)
        refine flowY rfl rfl h56 ?_
        have c1 : W.cell? ⟨X8, 1, none⟩ = some (.int .i64 (L : Int)) := cell_ext hE c81
        intro K hK
        unfold Oper.wp execOp
        simp only [h68]
        simp [go_sem, c1]
        exact hK _ _ ⟨Below.refl _ _, rfl, trivial⟩
      · intro a W hE hb hs
        have h67 : a.eval (.tmp 67) = .slice B m1 d := hs 46 (by decide)
        have h69 : a.eval (.tmp 69) = .int .i64 (L : Int) := hs 48 (by decide)
        have h56 : a.eval (.tmp 56) = .bool false := hs 35 (by decide)
        refine flowY rfl rfl h56 ?_
        exact val_slice_h _ _ _ rfl B m1 d L h67 h69 (by rw [run_sliceAt_slice _ _ _ _ _ _ und22e]; exact run_bytes_to B m1 d L (by omega) W) ⟨rfl, trivial⟩
      · intro a W hE hb hs
        have h70 : a.eval (.tmp 70) = .slice B L d := hs 49 (by decide)
        have h56 : a.eval (.tmp 56) = .bool false := hs 35 (by decide)
        refine flowY rfl rfl h56 ?_
        exact val_convert _ _ _ rfl _ h70 (by rw [run_str (rd_take1 (HY.out.below (ext_below hE)) hLm), HS2.out]) ⟨rfl, trivial⟩
      · intro a W hE hb hs
        have h66 : a.eval (.tmp 66) = .string ⟨S.toArray⟩ := hs 45 (by decide)
        have h71 : a.eval (.tmp 71) = .string ⟨S.toArray⟩ := hs 50 (by decide)
        have h56 : a.eval (.tmp 56) = .bool false := hs 35 (by decide)
        refine flowY rfl rfl h56 ?_
        intro K hK
        unfold Oper.wp execOp
        simp only [h66, h71]
        simp [go_sem]
        exact hK _ _ ⟨Below.refl _ _, rfl, trivial⟩
      · intro a W hE hb hs
        have h56 : a.eval (.tmp 56) = .bool false := hs 35 (by decide)
        have h72 : a.eval (.tmp 72) = .bool false := hs 51 (by decide)
        refine flow0 rfl ?_
        exact val_pick _ _ _ rfl false h56 _ (by rw [if_neg (by decide)]; exact h72) ⟨rfl, trivial⟩
    intro f W hb hT hp hd
    have e73 : f 73 = .bool false := hT 52 (by decide)
    have HbW := Lib.hid hb
    simp only [putV, List.foldl_cons, List.foldl_nil, Act.put, List.setIfInBounds_toArray, List.set_cons_succ, List.set_cons_zero, Exit.then]
    rw [e73]
    clear hT hp hd e73 hb c80 c81 z1 z2 z2n z3 z4 z4n z4m wa
    replace HX := Lib.hid (HX.out.below HbW.out)
    replace HY := Lib.hid (HY.out.below HbW.out)
    replace HB8 := Lib.hid (HB8.out.below HbW.out HB8.out.lt)
    replace HB := Lib.hid (HB.out.trans (HbW.out.mono HB.out.size))
    clear HbW
    go_wp2_with fail
    go_loopw [9, 10] (fun v9 _ wr => ∃ i : Nat, v9 = .int .i64 (i : Int) ∧ i ≤ n1 ∧ Below W.heap.size W wr) (fun v9 _ _ => n1 - (intOf v9).toNat)
    case atStart => exact ⟨0, rfl, by omega, Below.refl _ _⟩
    case round =>
      obtain ⟨i, rfl, hi, hBr⟩ := hrel
      have HBr := Lib.hid hBr
      have h8r := HB8.out.below hBr HB8.out.lt
      clear hBr
      by_cases hlt : i < n1
      · have d0 : decide ((i : Int) < (n1 : Int)) = true := decide_eq_true (by omega)
        obtain ⟨bb, bo, rfl, _⟩ := HX.out.2.2 (by omega)
        have hsl := run_slice_bytes bb bo n1 c i hlt hn1c
        have Hp := Lib.hid (rd_drop (HX.out.below HBr.out) hi)
        have hmost := HF.out.most (i := i) (by rw [HXl.out]; exact hlt)
        obtain ⟨sh, hsh⟩ : ∃ sh, sh = sharedL (X.drop i) Y := ⟨_, rfl⟩
        rw [← hsh] at hmost
        have HSh := Lib.hid (RShared_any (some ⟨bb, bo + i, none⟩) B (n1 - i) m1 (c - i) d (X.drop i) Y wr Hp.out (HY.out.below HBr.out))
        rw [← hsh] at HSh
        clear hsh
        go_wp2_with fail
        refine HSh.out.mono ?_
        rintro e_ wq ⟨rfl, hb_⟩
        have h8q := h8r.below hb_ h8r.lt
        have g0 : wq.cell? ⟨X8, 0, none⟩ = some (.int .i64 (a0 : Int)) := by rw [h8q.cell]; rfl
        have g1 : wq.cell? ⟨X8, 1, none⟩ = some (.int .i64 (L : Int)) := by rw [h8q.cell]; rfl
        have HE := Lib.hid (HBr.out.trans (hb_.mono HBr.out.size))
        have k1 : decide ((sh : Int) > (L : Int)) = false := decide_eq_false (by omega)
        have k1n : decide (L < sh) = false := decide_eq_false (by omega)
        clear HSh hb_ h8r h8q hsl
        by_cases h1 : sh = L
        · have k2 : ((sh : Int) == (L : Int)) = true := by rw [h1]; simp
          have k2n : (sh == L) = true := by rw [h1]; simp
          by_cases h2 : 0 < sh
          · have k3 : decide ((sh : Int) > 0) = true := decide_eq_true (by omega)
            have k3n : decide (0 < sh) = true := decide_eq_true h2
            have k4 : decide ((i : Int) < (a0 : Int)) = false := decide_eq_false (by have := hmost.2 h1 (by omega); omega)
            have k4n : decide (i < a0) = false := decide_eq_false (by have := hmost.2 h1 (by omega); omega)
            clear h1 h2 hmost
            go_wp2_with fail
            exact ⟨⟨i + 1, by go_num, by omega, HE.out⟩, by simp [intOf]; omega⟩
          · have k3 : decide ((sh : Int) > 0) = false := decide_eq_false (by omega)
            have k3n : decide (0 < sh) = false := decide_eq_false h2
            clear h1 h2 hmost
            go_wp2_with fail
            exact ⟨⟨i + 1, by go_num, by omega, HE.out⟩, by simp [intOf]; omega⟩
        · have k2 : ((sh : Int) == (L : Int)) = false := by rw [beq_eq_false_iff_ne]; omega
          have k2n : (sh == L) = false := by rw [beq_eq_false_iff_ne]; omega
          clear h1 hmost
          go_wp2_with fail
          exact ⟨⟨i + 1, by go_num, by omega, HE.out⟩, by simp [intOf]; omega⟩
      · have d0 : decide ((i : Int) < (n1 : Int)) = false := decide_eq_false (by omega)
        have d1 : decide (i < n1) = false := decide_eq_false hlt
        have HE := Lib.hid (HB.out.trans (HBr.out.mono HB.out.size))
        clear hlt h8r
        go_wp2_with fail
        go_ret
        exact ⟨rfl, HE.out⟩
  · have q1 : ((L : Int) == 0) = false := by rw [beq_eq_false_iff_ne]; omega
    have q2 : (L == 0) = false := by rw [beq_eq_false_iff_ne]; omega
    clear h0 Hz
    refine wp_region_flowF [21, 22, 23, 24, 25, 26, 27, 28, 29, 30, 31, 32, 33, 34, 35, 36, 37, 38, 39, 40, 41, 42, 43, 44, 45, 46, 47, 48, 49, 50, 51, 52, 53, 54, 55, 56, 57, 58, 59, 60, 61, 62, 63, 64, 65, 66, 67, 68, 69, 70, 71, 72, 73] [(Spec.is (.pointer (some ⟨X8, 1, none⟩)), false), (Spec.is (.int .i64 (L : Int)), false), (Spec.is (.bool false), false), (Spec.is (.bool false), false), (Spec.is (.pointer (some ⟨X8, 1, none⟩)), false), (Spec.is (.int .i64 (L : Int)), false), (Spec.is (.slice B m1 d), false), (Spec.is (.int .i64 (m1 : Int)), false), (Spec.is (.bool false), false), (Spec.is (.bool false), false), (Spec.is (.bool false), false), (Spec.is (.pointer (some ⟨X8, 0, none⟩)), false), (Spec.is (.int .i64 (a0 : Int)), false), (Spec.is (.bool false), false), (Spec.is (.bool false), false), (Spec.is (.bool false), false), (Spec.is (.pointer (some ⟨X8, 0, none⟩)), false), (Spec.is (.int .i64 (a0 : Int)), false), (Spec.is (.pointer (some ⟨X8, 1, none⟩)), false), (Spec.is (.int .i64 (L : Int)), false), (Spec.is (.int .i64 ((a0 + L : Nat) : Int)), false), (Spec.is (.slice A n1 c), false), (Spec.is (.int .i64 (n1 : Int)), false), (Spec.is (.bool false), false), (Spec.is (.bool false), false), (Spec.is (.bool false), false), (Spec.is (.pointer (some ⟨X8, 1, none⟩)), false), (Spec.is (.int .i64 (L : Int)), false), (Spec.is (.bool false), false), (Spec.is (.bool false), false), (Spec.any, false), (Spec.any, false), (Spec.any, false), (Spec.is (.bool false), false), (Spec.is (.bool false), false), (Spec.is (.bool false), false), (Spec.is (.slice A n1 c), false), (Spec.is (.pointer (some ⟨X8, 0, none⟩)), false), (Spec.is (.int .i64 (a0 : Int)), false), (Spec.is (.pointer (some ⟨X8, 0, none⟩)), false), (Spec.is (.int .i64 (a0 : Int)), false), (Spec.is (.pointer (some ⟨X8, 1, none⟩)), false), (Spec.is (.int .i64 (L : Int)), false), (Spec.is (.int .i64 ((a0 + L : Nat) : Int)), false), (Spec.is (.slice A2 L (c - a0)), false), (Spec.is (.string ⟨S.toArray⟩), false), (Spec.is (.slice B m1 d), false), (Spec.is (.pointer (some ⟨X8, 1, none⟩)), false), (Spec.is (.int .i64 (L : Int)), false), (Spec.is (.slice B L d), false), (Spec.is (.string ⟨S.toArray⟩), false), (Spec.is (.bool false), false), (Spec.is (.bool false), false)] 106 (by kernel_rfl) rfl (by decide) rfl (by decide) (by kernel_rfl) ?_ ?_
    · refine ⟨?_, ?_, ?_, ?_, ?_, ?_, ?_, ?_, ?_, ?_, ?_, ?_, ?_, ?_, ?_, ?_, ?_, ?_, ?_, ?_, ?_, ?_, ?_, ?_, ?_, ?_, ?_, ?_, ?_, ?_, ?_, ?_, ?_, ?_, ?_, ?_, ?_, ?_, ?_, ?_, ?_, ?_, ?_, ?_, ?_, ?_, ?_, ?_, ?_, ?_, ?_, ?_, ?_, trivial⟩
      · intro a W hE hb hs
        have h8 : a.eval (.tmp 8) = .pointer (some ⟨X8, 0, none⟩) := hb 8 (by decide)
        refine flow0 rfl ?_
        intro K hK
        unfold Oper.wp execOp
        simp only [h8]
        simp [go_sem]
        exact hK _ _ ⟨Below.refl _ _, rfl, trivial⟩
      · intro a W hE hb hs
        have h21 : a.eval (.tmp 21) = .pointer (some ⟨X8, 1, none⟩) := hs 0 (by decide)
        refine flow0 rfl ?_
        have c1 : W.cell? ⟨X8, 1, none⟩ = some (.int .i64 (L : Int)) := cell_ext hE c81
        intro K hK
        unfold Oper.wp execOp
        simp only [h21]
        simp [go_sem, c1]
        exact hK _ _ ⟨Below.refl _ _, rfl, trivial⟩
      · intro a W hE hb hs
        have h22 : a.eval (.tmp 22) = .int .i64 (L : Int) := hs 1 (by decide)
        refine flow0 rfl ?_
        intro K hK
        unfold Oper.wp execOp
        simp only [h22, BigFrame.eval_const]
        simp [go_sem, z1]
        exact hK _ _ ⟨Below.refl _ _, rfl, trivial⟩
      · intro a W hE hb hs
        have h23 : a.eval (.tmp 23) = .bool false := hs 2 (by decide)
        refine flow0 rfl ?_
        exact val_move _ rfl _ h23 ⟨rfl, trivial⟩
      · intro a W hE hb hs
        have h8 : a.eval (.tmp 8) = .pointer (some ⟨X8, 0, none⟩) := hb 8 (by decide)
        have h24 : a.eval (.tmp 24) = .bool false := hs 3 (by decide)
        refine flowY rfl rfl h24 ?_
        intro K hK
        unfold Oper.wp execOp
        simp only [h8]
        simp [go_sem]
        exact hK _ _ ⟨Below.refl _ _, rfl, trivial⟩
      · intro a W hE hb hs
        have h25 : a.eval (.tmp 25) = .pointer (some ⟨X8, 1, none⟩) := hs 4 (by decide)
        have h24 : a.eval (.tmp 24) = .bool false := hs 3 (by decide)
        refine flowY rfl rfl h24 ?_
        have c1 : W.cell? ⟨X8, 1, none⟩ = some (.int .i64 (L : Int)) := cell_ext hE c81
        intro K hK
        unfold Oper.wp execOp
        simp only [h25]
        simp [go_sem, c1]
        exact hK _ _ ⟨Below.refl _ _, rfl, trivial⟩
      · intro a W hE hb hs
        have h7 : a.eval (.tmp 7) = .slice B m1 d := hb 7 (by decide)
        have h24 : a.eval (.tmp 24) = .bool false := hs 3 (by decide)
        refine flowY rfl rfl h24 ?_
        exact val_move _ rfl _ h7 ⟨rfl, trivial⟩
      · intro a W hE hb hs
        have h27 : a.eval (.tmp 27) = .slice B m1 d := hs 6 (by decide)
        have h24 : a.eval (.tmp 24) = .bool false := hs 3 (by decide)
        refine flowY rfl rfl h24 ?_
        exact val_len _ 22 5 rfl Try.underlying22 _ _ _ h27 ⟨rfl, trivial⟩
      · intro a W hE hb hs
        have h26 : a.eval (.tmp 26) = .int .i64 (L : Int) := hs 5 (by decide)
        have h28 : a.eval (.tmp 28) = .int .i64 (m1 : Int) := hs 7 (by decide)
        have h24 : a.eval (.tmp 24) = .bool false := hs 3 (by decide)
        refine flowY rfl rfl h24 ?_
        intro K hK
        unfold Oper.wp execOp
        simp only [h26, h28]
        simp [go_sem, z2n]
        exact hK _ _ ⟨Below.refl _ _, rfl, trivial⟩
      · intro a W hE hb hs
        have h24 : a.eval (.tmp 24) = .bool false := hs 3 (by decide)
        have h29 : a.eval (.tmp 29) = .bool false := hs 8 (by decide)
        refine flow0 rfl ?_
        exact val_pick _ _ _ rfl false h24 _ (by rw [if_neg (by decide)]; exact h29) ⟨rfl, trivial⟩
      · intro a W hE hb hs
        have h30 : a.eval (.tmp 30) = .bool false := hs 9 (by decide)
        refine flow0 rfl ?_
        exact val_move _ rfl _ h30 ⟨rfl, trivial⟩
      · intro a W hE hb hs
        have h8 : a.eval (.tmp 8) = .pointer (some ⟨X8, 0, none⟩) := hb 8 (by decide)
        have h31 : a.eval (.tmp 31) = .bool false := hs 10 (by decide)
        refine flowY rfl rfl h31 ?_
        intro K hK
        unfold Oper.wp execOp
        simp only [h8]
        simp [go_sem]
        exact hK _ _ ⟨Below.refl _ _, rfl, trivial⟩
      · intro a W hE hb hs
        have h32 : a.eval (.tmp 32) = .pointer (some ⟨X8, 0, none⟩) := hs 11 (by decide)
        have h31 : a.eval (.tmp 31) = .bool false := hs 10 (by decide)
        refine flowY rfl rfl h31 ?_
        have c1 : W.cell? ⟨X8, 0, none⟩ = some (.int .i64 (a0 : Int)) := cell_ext hE c80
        intro K hK
        unfold Oper.wp execOp
        simp only [h32]
        simp [go_sem, c1]
        exact hK _ _ ⟨Below.refl _ _, rfl, trivial⟩
      · intro a W hE hb hs
        have h33 : a.eval (.tmp 33) = .int .i64 (a0 : Int) := hs 12 (by decide)
        have h31 : a.eval (.tmp 31) = .bool false := hs 10 (by decide)
        refine flowY rfl rfl h31 ?_
        intro K hK
        unfold Oper.wp execOp
        simp only [h33, BigFrame.eval_const]
        simp [go_sem, z3]
        exact hK _ _ ⟨Below.refl _ _, rfl, trivial⟩
      · intro a W hE hb hs
        have h31 : a.eval (.tmp 31) = .bool false := hs 10 (by decide)
        have h34 : a.eval (.tmp 34) = .bool false := hs 13 (by decide)
        refine flow0 rfl ?_
        exact val_pick _ _ _ rfl false h31 _ (by rw [if_neg (by decide)]; exact h34) ⟨rfl, trivial⟩
      · intro a W hE hb hs
        have h35 : a.eval (.tmp 35) = .bool false := hs 14 (by decide)
        refine flow0 rfl ?_
        exact val_move _ rfl _ h35 ⟨rfl, trivial⟩
      · intro a W hE hb hs
        have h8 : a.eval (.tmp 8) = .pointer (some ⟨X8, 0, none⟩) := hb 8 (by decide)
        have h36 : a.eval (.tmp 36) = .bool false := hs 15 (by decide)
        refine flowY rfl rfl h36 ?_
        intro K hK
        unfold Oper.wp execOp
        simp only [h8]
        simp [go_sem]
        exact hK _ _ ⟨Below.refl _ _, rfl, trivial⟩
      · intro a W hE hb hs
        have h37 : a.eval (.tmp 37) = .pointer (some ⟨X8, 0, none⟩) := hs 16 (by decide)
        have h36 : a.eval (.tmp 36) = .bool false := hs 15 (by decide)
        refine flowY rfl rfl h36 ?_
        have c1 : W.cell? ⟨X8, 0, none⟩ = some (.int .i64 (a0 : Int)) := cell_ext hE c80
        intro K hK
        unfold Oper.wp execOp
        simp only [h37]
        simp [go_sem, c1]
        exact hK _ _ ⟨Below.refl _ _, rfl, trivial⟩
      · intro a W hE hb hs
        have h8 : a.eval (.tmp 8) = .pointer (some ⟨X8, 0, none⟩) := hb 8 (by decide)
        have h36 : a.eval (.tmp 36) = .bool false := hs 15 (by decide)
        refine flowY rfl rfl h36 ?_
        intro K hK
        unfold Oper.wp execOp
        simp only [h8]
        simp [go_sem]
        exact hK _ _ ⟨Below.refl _ _, rfl, trivial⟩
      · intro a W hE hb hs
        have h39 : a.eval (.tmp 39) = .pointer (some ⟨X8, 1, none⟩) := hs 18 (by decide)
        have h36 : a.eval (.tmp 36) = .bool false := hs 15 (by decide)
        refine flowY rfl rfl h36 ?_
        have c1 : W.cell? ⟨X8, 1, none⟩ = some (.int .i64 (L : Int)) := cell_ext hE c81
        intro K hK
        unfold Oper.wp execOp
        simp only [h39]
        simp [go_sem, c1]
        exact hK _ _ ⟨Below.refl _ _, rfl, trivial⟩
      · intro a W hE hb hs
        have h38 : a.eval (.tmp 38) = .int .i64 (a0 : Int) := hs 17 (by decide)
        have h40 : a.eval (.tmp 40) = .int .i64 (L : Int) := hs 19 (by decide)
        have h36 : a.eval (.tmp 36) = .bool false := hs 15 (by decide)
        refine flowY rfl rfl h36 ?_
        intro K hK
        unfold Oper.wp execOp
        simp only [h38, h40]
        simp [go_sem, wa]
        exact hK _ _ ⟨Below.refl _ _, rfl, trivial⟩
      · intro a W hE hb hs
        have h6 : a.eval (.tmp 6) = .slice A n1 c := hb 6 (by decide)
        have h36 : a.eval (.tmp 36) = .bool false := hs 15 (by decide)
        refine flowY rfl rfl h36 ?_
        exact val_move _ rfl _ h6 ⟨rfl, trivial⟩
      · intro a W hE hb hs
        have h42 : a.eval (.tmp 42) = .slice A n1 c := hs 21 (by decide)
        have h36 : a.eval (.tmp 36) = .bool false := hs 15 (by decide)
        refine flowY rfl rfl h36 ?_
        exact val_len _ 22 5 rfl Try.underlying22 _ _ _ h42 ⟨rfl, trivial⟩
      · intro a W hE hb hs
        have h41 : a.eval (.tmp 41) = .int .i64 ((a0 + L : Nat) : Int) := hs 20 (by decide)
        have h43 : a.eval (.tmp 43) = .int .i64 (n1 : Int) := hs 22 (by decide)
        have h36 : a.eval (.tmp 36) = .bool false := hs 15 (by decide)
        refine flowY rfl rfl h36 ?_
        intro K hK
        unfold Oper.wp execOp
        simp only [h41, h43]
        simp [go_sem, z4m]
        exact hK _ _ ⟨Below.refl _ _, rfl, trivial⟩
      · intro a W hE hb hs
        have h36 : a.eval (.tmp 36) = .bool false := hs 15 (by decide)
        have h44 : a.eval (.tmp 44) = .bool false := hs 23 (by decide)
        refine flow0 rfl ?_
        exact val_pick _ _ _ rfl false h36 _ (by rw [if_neg (by decide)]; exact h44) ⟨rfl, trivial⟩
      · intro a W hE hb hs
        have h45 : a.eval (.tmp 45) = .bool false := hs 24 (by decide)
        refine flow0 rfl ?_
        exact val_move _ rfl _ h45 ⟨rfl, trivial⟩
      · intro a W hE hb hs
        have h8 : a.eval (.tmp 8) = .pointer (some ⟨X8, 0, none⟩) := hb 8 (by decide)
        have h46 : a.eval (.tmp 46) = .bool false := hs 25 (by decide)
        refine flowY rfl rfl h46 ?_
        intro K hK
        unfold Oper.wp execOp
        simp only [h8]
        simp [go_sem]
        exact hK _ _ ⟨Below.refl _ _, rfl, trivial⟩
      · intro a W hE hb hs
        have h47 : a.eval (.tmp 47) = .pointer (some ⟨X8, 1, none⟩) := hs 26 (by decide)
        have h46 : a.eval (.tmp 46) = .bool false := hs 25 (by decide)
        refine flowY rfl rfl h46 ?_
        have c1 : W.cell? ⟨X8, 1, none⟩ = some (.int .i64 (L : Int)) := cell_ext hE c81
        intro K hK
        unfold Oper.wp execOp
        simp only [h47]
        simp [go_sem, c1]
        exact hK _ _ ⟨Below.refl _ _, rfl, trivial⟩
      · intro a W hE hb hs
        have h48 : a.eval (.tmp 48) = .int .i64 (L : Int) := hs 27 (by decide)
        have h46 : a.eval (.tmp 46) = .bool false := hs 25 (by decide)
        refine flowY rfl rfl h46 ?_
        intro K hK
        unfold Oper.wp execOp
        simp only [h48, BigFrame.eval_const]
        simp [go_sem, q1]
        exact hK _ _ ⟨Below.refl _ _, rfl, trivial⟩
      · intro a W hE hb hs
        have h49 : a.eval (.tmp 49) = .bool false := hs 28 (by decide)
        have h46 : a.eval (.tmp 46) = .bool false := hs 25 (by decide)
        refine flowY rfl rfl h46 ?_
        exact val_move _ rfl _ h49 ⟨rfl, trivial⟩
      · intro a W hE hb hs
        have h50 : a.eval (.tmp 50) = .bool false := hs 29 (by decide)
        exact flowN rfl rfl h50 (by decide) ⟨trivial, rfl⟩
      · intro a W hE hb hs
        have h50 : a.eval (.tmp 50) = .bool false := hs 29 (by decide)
        exact flowN rfl rfl h50 (by decide) ⟨trivial, rfl⟩
      · intro a W hE hb hs
        have h50 : a.eval (.tmp 50) = .bool false := hs 29 (by decide)
        exact flowN rfl rfl h50 (by decide) ⟨trivial, rfl⟩
      · intro a W hE hb hs
        have h50 : a.eval (.tmp 50) = .bool false := hs 29 (by decide)
        have h46 : a.eval (.tmp 46) = .bool false := hs 25 (by decide)
        refine flowY rfl rfl h46 ?_
        exact val_pick _ _ _ rfl false h50 _ (by rw [if_neg (by decide)]; rfl) ⟨rfl, trivial⟩
      · intro a W hE hb hs
        have h46 : a.eval (.tmp 46) = .bool false := hs 25 (by decide)
        have h54 : a.eval (.tmp 54) = .bool false := hs 33 (by decide)
        refine flow0 rfl ?_
        exact val_pick _ _ _ rfl false h46 _ (by rw [if_neg (by decide)]; exact h54) ⟨rfl, trivial⟩
      · intro a W hE hb hs
        have h55 : a.eval (.tmp 55) = .bool false := hs 34 (by decide)
        refine flow0 rfl ?_
        exact val_move _ rfl _ h55 ⟨rfl, trivial⟩
      · intro a W hE hb hs
        have h6 : a.eval (.tmp 6) = .slice A n1 c := hb 6 (by decide)
        have h56 : a.eval (.tmp 56) = .bool false := hs 35 (by decide)
        refine flowY rfl rfl h56 ?_
        exact val_move _ rfl _ h6 ⟨rfl, trivial⟩
      · intro a W hE hb hs
        have h8 : a.eval (.tmp 8) = .pointer (some ⟨X8, 0, none⟩) := hb 8 (by decide)
        have h56 : a.eval (.tmp 56) = .bool false := hs 35 (by decide)
        refine flowY rfl rfl h56 ?_
        intro K hK
        unfold Oper.wp execOp
        simp only [h8]
        simp [go_sem]
        exact hK _ _ ⟨Below.refl _ _, rfl, trivial⟩
      · intro a W hE hb hs
        have h58 : a.eval (.tmp 58) = .pointer (some ⟨X8, 0, none⟩) := hs 37 (by decide)
        have h56 : a.eval (.tmp 56) = .bool false := hs 35 (by decide)
        refine flowY rfl rfl h56 ?_
        have c1 : W.cell? ⟨X8, 0, none⟩ = some (.int .i64 (a0 : Int)) := cell_ext hE c80
        intro K hK
        unfold Oper.wp execOp
        simp only [h58]
        simp [go_sem, c1]
        exact hK _ _ ⟨Below.refl _ _, rfl, trivial⟩
      · intro a W hE hb hs
        have h8 : a.eval (.tmp 8) = .pointer (some ⟨X8, 0, none⟩) := hb 8 (by decide)
        have h56 : a.eval (.tmp 56) = .bool false := hs 35 (by decide)
        refine flowY rfl rfl h56 ?_
        intro K hK
        unfold Oper.wp execOp
        simp only [h8]
        simp [go_sem]
        exact hK _ _ ⟨Below.refl _ _, rfl, trivial⟩
      · intro a W hE hb hs
        have h60 : a.eval (.tmp 60) = .pointer (some ⟨X8, 0, none⟩) := hs 39 (by decide)
        have h56 : a.eval (.tmp 56) = .bool false := hs 35 (by decide)
        refine flowY rfl rfl h56 ?_
        have c1 : W.cell? ⟨X8, 0, none⟩ = some (.int .i64 (a0 : Int)) := cell_ext hE c80
        intro K hK
        unfold Oper.wp execOp
        simp only [h60]
        simp [go_sem, c1]
        exact hK _ _ ⟨Below.refl _ _, rfl, trivial⟩
      · intro a W hE hb hs
        have h8 : a.eval (.tmp 8) = .pointer (some ⟨X8, 0, none⟩) := hb 8 (by decide)
        have h56 : a.eval (.tmp 56) = .bool false := hs 35 (by decide)
        refine flowY rfl rfl h56 ?_
        intro K hK
        unfold Oper.wp execOp
        simp only [h8]
        simp [go_sem]
        exact hK _ _ ⟨Below.refl _ _, rfl, trivial⟩
      · intro a W hE hb hs
        have h62 : a.eval (.tmp 62) = .pointer (some ⟨X8, 1, none⟩) := hs 41 (by decide)
        have h56 : a.eval (.tmp 56) = .bool false := hs 35 (by decide)
        refine flowY rfl rfl h56 ?_
        have c1 : W.cell? ⟨X8, 1, none⟩ = some (.int .i64 (L : Int)) := cell_ext hE c81
        intro K hK
        unfold Oper.wp execOp
        simp only [h62]
        simp [go_sem, c1]
        exact hK _ _ ⟨Below.refl _ _, rfl, trivial⟩
      · intro a W hE hb hs
        have h61 : a.eval (.tmp 61) = .int .i64 (a0 : Int) := hs 40 (by decide)
        have h63 : a.eval (.tmp 63) = .int .i64 (L : Int) := hs 42 (by decide)
        have h56 : a.eval (.tmp 56) = .bool false := hs 35 (by decide)
        refine flowY rfl rfl h56 ?_
        intro K hK
        unfold Oper.wp execOp
        simp only [h61, h63]
        simp [go_sem, wa]
        exact hK _ _ ⟨Below.refl _ _, rfl, trivial⟩
      · intro a W hE hb hs
        have h57 : a.eval (.tmp 57) = .slice A n1 c := hs 36 (by decide)
        have h59 : a.eval (.tmp 59) = .int .i64 (a0 : Int) := hs 38 (by decide)
        have h64 : a.eval (.tmp 64) = .int .i64 ((a0 + L : Nat) : Int) := hs 43 (by decide)
        have h56 : a.eval (.tmp 56) = .bool false := hs 35 (by decide)
        refine flowY rfl rfl h56 ?_
        exact val_slice_lh _ _ _ _ rfl A n1 c a0 (a0 + L) h57 h59 h64 (HA2.out W) ⟨rfl, trivial⟩
      · intro a W hE hb hs
        have h65 : a.eval (.tmp 65) = .slice A2 L (c - a0) := hs 44 (by decide)
        have h56 : a.eval (.tmp 56) = .bool false := hs 35 (by decide)
        refine flowY rfl rfl h56 ?_
        exact val_convert _ _ _ rfl _ h65 (by rw [run_str (HAr.out W X (HX.out.below (ext_below hE))), HS.out]) ⟨rfl, trivial⟩
      · intro a W hE hb hs
        have h7 : a.eval (.tmp 7) = .slice B m1 d := hb 7 (by decide)
        have h56 : a.eval (.tmp 56) = .bool false := hs 35 (by decide)
        refine flowY rfl rfl h56 ?_
        exact val_move _ rfl _ h7 ⟨rfl, trivial⟩
      · intro a W hE hb hs
        have h8 : a.eval (.tmp 8) = .pointer (some ⟨X8, 0, none⟩) := hb 8 (by decide)
        have h56 : a.eval (.tmp 56) = .bool false := hs 35 (by decide)
        refine flowY rfl rfl h56 ?_
        intro K hK
        unfold Oper.wp execOp
        simp only [h8]
        simp [go_sem]
        exact hK _ _ ⟨Below.refl _ _, rfl, trivial⟩
      · intro a W hE hb hs
        have h68 : a.eval (.tmp 68) = .pointer (some ⟨X8, 1, none⟩) := hs 47 (by decide)
        have h56 : a.eval (.tmp 56) = .bool false := hs 35 (by decide)
        refine flowY rfl rfl h56 ?_
        have c1 : W.cell? ⟨X8, 1, none⟩ = some (.int .i64 (L : Int)) := cell_ext hE c81
        intro K hK
        unfold Oper.wp execOp
        simp only [h68]
        simp [go_sem, c1]
        exact hK _ _ ⟨Below.refl _ _, rfl, trivial⟩
      · intro a W hE hb hs
        have h67 : a.eval (.tmp 67) = .slice B m1 d := hs 46 (by decide)
        have h69 : a.eval (.tmp 69) = .int .i64 (L : Int) := hs 48 (by decide)
        have h56 : a.eval (.tmp 56) = .bool false := hs 35 (by decide)
        refine flowY rfl rfl h56 ?_
        exact val_slice_h _ _ _ rfl B m1 d L h67 h69 (by rw [run_sliceAt_slice _ _ _ _ _ _ und22e]; exact run_bytes_to B m1 d L (by omega) W) ⟨rfl, trivial⟩
      · intro a W hE hb hs
        have h70 : a.eval (.tmp 70) = .slice B L d := hs 49 (by decide)
        have h56 : a.eval (.tmp 56) = .bool false := hs 35 (by decide)
        refine flowY rfl rfl h56 ?_
        exact val_convert _ _ _ rfl _ h70 (by rw [run_str (rd_take1 (HY.out.below (ext_below hE)) hLm), HS2.out]) ⟨rfl, trivial⟩
      · intro a W hE hb hs
        have h66 : a.eval (.tmp 66) = .string ⟨S.toArray⟩ := hs 45 (by decide)
        have h71 : a.eval (.tmp 71) = .string ⟨S.toArray⟩ := hs 50 (by decide)
        have h56 : a.eval (.tmp 56) = .bool false := hs 35 (by decide)
        refine flowY rfl rfl h56 ?_
        intro K hK
        unfold Oper.wp execOp
        simp only [h66, h71]
        simp [go_sem]
        exact hK _ _ ⟨Below.refl _ _, rfl, trivial⟩
      · intro a W hE hb hs
        have h56 : a.eval (.tmp 56) = .bool false := hs 35 (by decide)
        have h72 : a.eval (.tmp 72) = .bool false := hs 51 (by decide)
        refine flow0 rfl ?_
        exact val_pick _ _ _ rfl false h56 _ (by rw [if_neg (by decide)]; exact h72) ⟨rfl, trivial⟩
    intro f W hb hT hp hd
    have e73 : f 73 = .bool false := hT 52 (by decide)
    have HbW := Lib.hid hb
    simp only [putV, List.foldl_cons, List.foldl_nil, Act.put, List.setIfInBounds_toArray, List.set_cons_succ, List.set_cons_zero, Exit.then]
    rw [e73]
    clear hT hp hd e73 hb c80 c81 z1 z2 z2n z3 z4 z4n z4m wa
    replace HX := Lib.hid (HX.out.below HbW.out)
    replace HY := Lib.hid (HY.out.below HbW.out)
    replace HB8 := Lib.hid (HB8.out.below HbW.out HB8.out.lt)
    replace HB := Lib.hid (HB.out.trans (HbW.out.mono HB.out.size))
    clear HbW
    go_wp2_with fail
    go_loopw [9, 10] (fun v9 _ wr => ∃ i : Nat, v9 = .int .i64 (i : Int) ∧ i ≤ n1 ∧ Below W.heap.size W wr) (fun v9 _ _ => n1 - (intOf v9).toNat)
    case atStart => exact ⟨0, rfl, by omega, Below.refl _ _⟩
    case round =>
      obtain ⟨i, rfl, hi, hBr⟩ := hrel
      have HBr := Lib.hid hBr
      have h8r := HB8.out.below hBr HB8.out.lt
      clear hBr
      by_cases hlt : i < n1
      · have d0 : decide ((i : Int) < (n1 : Int)) = true := decide_eq_true (by omega)
        obtain ⟨bb, bo, rfl, _⟩ := HX.out.2.2 (by omega)
        have hsl := run_slice_bytes bb bo n1 c i hlt hn1c
        have Hp := Lib.hid (rd_drop (HX.out.below HBr.out) hi)
        have hmost := HF.out.most (i := i) (by rw [HXl.out]; exact hlt)
        obtain ⟨sh, hsh⟩ : ∃ sh, sh = sharedL (X.drop i) Y := ⟨_, rfl⟩
        rw [← hsh] at hmost
        have HSh := Lib.hid (RShared_any (some ⟨bb, bo + i, none⟩) B (n1 - i) m1 (c - i) d (X.drop i) Y wr Hp.out (HY.out.below HBr.out))
        rw [← hsh] at HSh
        clear hsh
        go_wp2_with fail
        refine HSh.out.mono ?_
        rintro e_ wq ⟨rfl, hb_⟩
        have h8q := h8r.below hb_ h8r.lt
        have g0 : wq.cell? ⟨X8, 0, none⟩ = some (.int .i64 (a0 : Int)) := by rw [h8q.cell]; rfl
        have g1 : wq.cell? ⟨X8, 1, none⟩ = some (.int .i64 (L : Int)) := by rw [h8q.cell]; rfl
        have HE := Lib.hid (HBr.out.trans (hb_.mono HBr.out.size))
        have k1 : decide ((sh : Int) > (L : Int)) = false := decide_eq_false (by omega)
        have k1n : decide (L < sh) = false := decide_eq_false (by omega)
        clear HSh hb_ h8r h8q hsl
        by_cases h1 : sh = L
        · have k2 : ((sh : Int) == (L : Int)) = true := by rw [h1]; simp
          have k2n : (sh == L) = true := by rw [h1]; simp
          by_cases h2 : 0 < sh
          · have k3 : decide ((sh : Int) > 0) = true := decide_eq_true (by omega)
            have k3n : decide (0 < sh) = true := decide_eq_true h2
            have k4 : decide ((i : Int) < (a0 : Int)) = false := decide_eq_false (by have := hmost.2 h1 (by omega); omega)
            have k4n : decide (i < a0) = false := decide_eq_false (by have := hmost.2 h1 (by omega); omega)
            clear h1 h2 hmost
            go_wp2_with fail
            exact ⟨⟨i + 1, by go_num, by omega, HE.out⟩, by simp [intOf]; omega⟩
          · have k3 : decide ((sh : Int) > 0) = false := decide_eq_false (by omega)
            have k3n : decide (0 < sh) = false := decide_eq_false h2
            clear h1 h2 hmost
            go_wp2_with fail
            exact ⟨⟨i + 1, by go_num, by omega, HE.out⟩, by simp [intOf]; omega⟩
        · have k2 : ((sh : Int) == (L : Int)) = false := by rw [beq_eq_false_iff_ne]; omega
          have k2n : (sh == L) = false := by rw [beq_eq_false_iff_ne]; omega
          clear h1 hmost
          go_wp2_with fail
          exact ⟨⟨i + 1, by go_num, by omega, HE.out⟩, by simp [intOf]; omega⟩
      · have d0 : decide ((i : Int) < (n1 : Int)) = false := decide_eq_false (by omega)
        have d1 : decide (i < n1) = false := decide_eq_false hlt
        have HE := Lib.hid (HB.out.trans (HBr.out.mono HB.out.size))
        clear hlt h8r
        go_wp2_with fail
        go_ret
        exact ⟨rfl, HE.out⟩
end Go.Proofs.Ytcelkneeedebiaa
