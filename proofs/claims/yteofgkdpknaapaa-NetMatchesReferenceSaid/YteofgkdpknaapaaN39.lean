/- NetBytes: the walk. -/
import Derived.Test.YteofgkdpknaapaaN38
import Derived.Test.YteofgkdpknaapaaN33
namespace Go.Proofs.Yteofgkdpknaapaa
open Go.RowKit Go.Sort

theorem elemB : Try.prog.elem 26 = 5 := by kernel_rfl
theorem undBh : Try.prog.underlying 26 = some (.slice (Try.prog.elem 26)) := by rw [elemB]; exact Try.underlying26
theorem cellsB : Try.prog.cellsOf 5 = 1 := by kernel_rfl
theorem run_by_h (A : Option Addr) (n c i : Nat) (hi : i ≤ c) (w : World) : (Instr.slice 26 (.slice A n c) none (some (.int .i64 (i : Int))) none).run Try.prog w = .ok (.slice A i c) w := by
  obtain ⟨iE, hi', _⟩ := info_parts info5
  rw [run_slice_h (P := Try.prog) w 26 A n c undBh .i64 (i : Int) (by omega) (by omega), elemB, run_sizeOf w hi', cellsB]
  simp only [Result.andThen_ok, sliced, Int.toNat_natCast]
  cases A with
  | none => simp
  | some a => cases a; simp [Addr.add] <;> rfl
theorem NBytesL_any (v : Pv) (p : Pk) (bs : List UInt8) (w : World) (hv : PvOk w v p) (hp : validP p = true) (h : bytP p = bs) :
    Calls Try.prog 26 #[.agg (pvC v).toArray] w fun e w' => (∃ (A : Option Addr) (c : Nat), e = .returned (.slice A bs.length c) ∧ bs.length ≤ c ∧ Rd w' 1 A bs.length (bs.map byteV)) ∧ Below w.heap.size w w' := by
  refine (NBytes_any v p w hv hp).mono ?_
  rintro e w' ⟨⟨v', rfl, ha⟩, hb⟩
  obtain ⟨A, c, rfl, hc, hr⟩ := ha.rd
  rw [h] at hr hc
  exact ⟨⟨A, c, by rw [h], hc, hr⟩, hb⟩
theorem RNBytesL_any (v : Pv) (p : Pk) (bs : List UInt8) (w : World) (hv : PvOk w v p) (hp : validP p = true) (h : bytP p = bs) :
    Calls Try.prog 27 #[.agg (pvC v).toArray] w fun e w' => (∃ (A : Option Addr) (c : Nat), e = .returned (.slice A bs.length c) ∧ bs.length ≤ c ∧ Rd w' 1 A bs.length (bs.map byteV)) ∧ Below w.heap.size w w' := by
  refine (RNBytes_any v p w hv hp).mono ?_
  rintro e w' ⟨⟨v', rfl, ha⟩, hb⟩
  obtain ⟨A, c, rfl, hc, hr⟩ := ha.rd
  rw [h] at hr hc
  exact ⟨⟨A, c, by rw [h], hc, hr⟩, hb⟩
theorem yielded_undef {ops : Array Oper} {a : Act} {g d : Nat} (hg : (ops[g]?).bind (·.dst) = some d) (h : a.eval (.tmp d) = undef) : yielded ops a.tmps g = none := by
  unfold yielded
  rw [hg]
  unfold Act.eval at h
  simp only [Array.getD_eq_getD_getElem?] at h
  simp only [Option.bind_some]
  cases e : a.tmps[d]? with
  | none => rfl
  | some v => rw [e] at h; simp only [Option.getD_some] at h; rw [h]; rfl
/-- Under a guard that was not reckoned. -/
theorem flowU {P : Program} {Q : Exit → Act → World → Prop} {ops : Array Oper} {o : Oper} {a : Act} {W : World} {R : Value → World → Prop} {U : Prop} {g d : Nat} {b : Bool} (hg : o.guard = some (g, b)) (hd : (ops[g]?).bind (·.dst) = some d) (hv : a.eval (.tmp d) = undef) (h : U) :
    (Region.wanted o (yielded ops a.tmps) = true → Val P Q o a W R) ∧ (Region.wanted o (yielded ops a.tmps) = false → U) :=
  ⟨fun e => by simp [Region.wanted, hg, yielded_undef hd hv] at e, fun _ => h⟩
theorem bytP_three (p : Pk) : 3 ≤ (bytP p).length := by unfold bytP; simp
theorem bytP_bound {p : Pk} (h : validP p = true) : (bytP p).length ≤ 50000 := by
  by_cases h2 : p.kind = 2
  · have := valid_two h h2
    rw [bytP_two h2]
    exact curS_len this.1 this.2.1 this.2.2 _
  by_cases h4 : p.kind = 4
  · have := valid_four h h4
    rw [bytP_four h4]
    exact curD_len this.1 this.2 _
  rw [bytP_none h2 h4]
  simp
theorem ans_good {p : Pk} (h : validP p = true) : ansP (bytP p) = (p, 0) := by unfold ansP; rw [parP_of h]
theorem ans_more {p : Pk} (h : validP p = true) {c : List UInt8} (hc : c ≠ []) : ansP (bytP p ++ c) = (pk0, 310) := by unfold ansP; rw [parP_more (parP_of h) hc]
theorem ans_less {p : Pk} (h : validP p = true) : ansP ((bytP p).take ((bytP p).length - 1)) = (pk0, 310) := by
  unfold ansP
  rw [parP_less (parP_of h) (fun e => by have := bytP_three p; rw [e] at this; simp at this)]
theorem ans_cases (b : List UInt8) : ((ansP b).1 = pk0 ∧ (ansP b).2 = 310) ∨ (parP b = some (ansP b).1 ∧ (ansP b).2 = 0 ∧ validP (ansP b).1 = true ∧ bytP (ansP b).1 = b) := by
  cases h : parP b with
  | none => exact .inl (by unfold ansP; rw [h]; exact ⟨rfl, rfl⟩)
  | some p =>
    have hi := parP_inv h
    refine .inr ?_
    unfold ansP
    rw [h]
    exact ⟨rfl, rfl, hi.2, hi.1⟩
theorem xor_bb (a b : UInt8) (W : World) : (binOp .xor 5 (.int .u8 (a.toNat : Int)) (.int .u8 (b.toNat : Int))).run Try.prog W = .ok (.int .u8 ((a ^^^ b).toNat : Int)) W := by
  simp [binOp, go_sem, w8x_xor, UInt8.toNat_xor]
set_option maxRecDepth 100000 in
set_option maxHeartbeats 8000000 in
theorem NetBytes_any (x : Rw) (D : Option Addr) (dn dc q0n q1n : Nat) (w : World) (hD : Rd w 1 D dn (x.data.map byteV)) (hdc : dn ≤ dc) (hq0 : q0n < 65536) (_hq1 : q1n < 65536) :
    Calls Try.prog 4 #[.agg (rwC x D dn dc).toArray, .agg #[.int .u16 (q0n : Int), .int .u16 (q1n : Int)]] w fun e w' => e = .returned (.bool true) ∧ Below w.heap.size w w' := by
  obtain ⟨i39, hi39, hz39, hs39, hy39⟩ := info_parts info39
  obtain ⟨i30, hi30, hz30, _, _⟩ := info_parts info30
  obtain ⟨i0, hi0, hz0, hz1, hz2⟩ := info_parts info5
  obtain ⟨d39, hd39, hrow39⟩ := und39
  obtain ⟨d30, hd30, hrow30⟩ := und30
  obtain ⟨d55, hd55, hrow55⟩ := und55
  obtain ⟨w1, hw1⟩ : ∃ q, q = (w.alloc (.cells (rwC x D dn dc).toArray 55)).alloc (.cells #[.int .u16 (q0n : Int), .int .u16 (q1n : Int)] 57) := ⟨_, rfl⟩
  have hb1 : Below w.heap.size w w1 := by rw [hw1]; exact ((Below.refl _ _).alloc (Nat.le_refl _) _).alloc (by simp) _
  have HWa := Lib.hid (show Blk w1 w.heap.size 55 (rwC x D dn dc).toArray by rw [hw1]; exact (Blk.new _ _ _).alloc _)
  have HWb := Lib.hid (show Blk w1 (w.heap.size + 1) 57 #[.int .u16 (q0n : Int), .int .u16 (q1n : Int)] by
    have := Blk.new (w.alloc (.cells (rwC x D dn dc).toArray 55)) 57 #[.int .u16 (q0n : Int), .int .u16 (q1n : Int)]
    rw [World.size_alloc] at this
    rw [hw1]; exact this)
  have HW1 := Lib.hid hw1
  have HB := Lib.hid hb1
  have HD := Lib.hid (hD.below hb1)
  clear hw1 hb1 hD
  go_enter Try.func4, Try.ntmps4
  go_upto_region 1 with fail
  rw [← HW1.out]
  go_upto_region 2 with fail
  refine (sanity_any w1).mono ?_
  rintro e v1 ⟨rfl, hb_⟩
  replace HB := Lib.hid (HB.out.trans (hb_.mono HB.out.size))
  replace HWa := Lib.hid (HWa.out.below hb_ HWa.out.lt)
  replace HWb := Lib.hid (HWb.out.below hb_ HWb.out.lt)
  replace HD := Lib.hid (HD.out.below hb_)
  clear hb_
  have Hk := Lib.hid (Blk.range HWa.out)
  go_upto_region 3 with (refine wpList_load_mid rfl 55 (.tmp 2) rfl w.heap.size 0 rfl (rwC x D dn dc) d55 Hk.out hd55 hrow55 (by rw [rwC_len]; kernel_rfl) ?_)
  clear Hk
  refine (Made_any x D dn dc v1 HD.out hdc).mono ?_
  rintro e v2 ⟨⟨pv6, rfl, hp_⟩, hb_⟩
  replace HB := Lib.hid (HB.out.trans (hb_.mono HB.out.size))
  replace HWa := Lib.hid (HWa.out.below hb_ HWa.out.lt)
  replace HWb := Lib.hid (HWb.out.below hb_ HWb.out.lt)
  replace HD := Lib.hid (HD.out.below hb_)
  clear hb_
  obtain ⟨p, hP⟩ : ∃ q, q = madeP x := ⟨_, rfl⟩
  rw [← hP] at hp_
  have Hval := Lib.hid (show validP p = true by rw [hP]; exact madeP_valid x)
  have Hok := Lib.hid (okP_of Hval.out)
  have Hp6 := Lib.hid hp_
  clear hp_ hP
  clear HD HWa
  go_upto_region 3 with (first | (refine wpList_alloc0 rfl 39 rfl (pvC pv0).toArray _ i39 hi39 hz39 rfl ?_; simp only [Act.put, List.setIfInBounds_toArray, List.set_cons_succ, List.set_cons_zero]; try simp only [World.size_alloc]) | (refine wpList_store_row rfl 39 (.tmp 6) (.tmp 20) rfl v2.heap.size (pvC pv6).toArray rfl rfl 39 _ (Blk.new v2 _ _) (size39 _ rfl) rfl (pv_row_one _) ?_; rw [alloc_setRow]))
  obtain ⟨X6, hX6⟩ : ∃ q, q = v2.heap.size := ⟨_, rfl⟩
  obtain ⟨v3, hv3⟩ : ∃ q, q = v2.alloc (.cells (pvC pv6).toArray 39) := ⟨_, rfl⟩
  have hb_ : Below v2.heap.size v2 v3 := by rw [hv3]; exact (Below.refl _ _).alloc (Nat.le_refl _) _
  have HBX6 := Lib.hid (show Blk v3 X6 39 (pvC pv6).toArray by rw [hv3, hX6]; exact Blk.new _ _ _)
  have hlX6 : w.heap.size ≤ X6 := by have := HB.out.size; omega
  rw [← hv3, ← hX6]
  replace HB := Lib.hid (HB.out.trans (hb_.mono HB.out.size))
  replace HWb := Lib.hid (HWb.out.below hb_ HWb.out.lt)
  replace Hp6 := Lib.hid (Hp6.out.below hb_)
  clear hb_ hv3 hX6
  obtain ⟨bs, hbs⟩ : ∃ q, q = bytP p := ⟨_, rfl⟩
  have Hbs := Lib.hid hbs
  clear hbs
  have Hk := Lib.hid (Blk.range HBX6.out)
  go_upto_region 4 with (refine wpList_load_mid rfl 39 (.tmp 6) rfl X6 0 rfl (pvC pv6) d39 Hk.out hd39 hrow39 (by rw [pvC_len]; kernel_rfl) ?_)
  clear Hk
  refine (NBytesL_any pv6 p bs v3 Hp6.out Hval.out Hbs.out.symm).mono ?_
  rintro e v4 ⟨⟨A7, c7, rfl, hc7, hr_⟩, hb_⟩
  replace HB := Lib.hid (HB.out.trans (hb_.mono HB.out.size))
  replace HWb := Lib.hid (HWb.out.below hb_ HWb.out.lt)
  replace Hp6 := Lib.hid (Hp6.out.below hb_)
  replace HBX6 := Lib.hid (HBX6.out.below hb_ HBX6.out.lt)
  clear hb_
  have H7 := Lib.hid hr_
  clear hr_
  obtain ⟨L, hL⟩ : ∃ q, q = bs.length := ⟨_, rfl⟩
  rw [← hL] at hc7
  have HL := Lib.hid hL
  have HLb := Lib.hid (show 3 ≤ L ∧ L ≤ 50000 from by rw [hL, Hbs.out]; exact ⟨bytP_three p, bytP_bound Hval.out⟩)
  rw [← hL]
  replace H7 := Lib.hid (show Rd _ 1 A7 L (bs.map byteV) from hL ▸ H7.out)
  clear hL
  have hL3 : 3 ≤ L := HLb.out.1
  have hL5 : L ≤ 50000 := HLb.out.2
  go_upto_region 5 with fail
  refine (Parse0_any A7 L c7 bs p 0 v4 H7.out hc7 (by rw [Hbs.out]; exact ans_good Hval.out)).mono ?_
  rintro e v5 ⟨⟨pv8, rfl, hp_⟩, hb_⟩
  replace HB := Lib.hid (HB.out.trans (hb_.mono HB.out.size))
  replace HWb := Lib.hid (HWb.out.below hb_ HWb.out.lt)
  replace Hp6 := Lib.hid (Hp6.out.below hb_)
  replace HBX6 := Lib.hid (HBX6.out.below hb_ HBX6.out.lt)
  replace H7 := Lib.hid (H7.out.below hb_)
  clear hb_
  have Hp8 := Lib.hid hp_
  clear hp_
  go_upto_region 5 with (first | (refine wpList_alloc0 rfl 39 rfl (pvC pv0).toArray _ i39 hi39 hz39 rfl ?_; simp only [Act.put, List.setIfInBounds_toArray, List.set_cons_succ, List.set_cons_zero]; try simp only [World.size_alloc]) | (refine wpList_store_row rfl 39 (.tmp 8) (.tmp 26) rfl v5.heap.size (pvC pv8).toArray rfl rfl 39 _ (Blk.new v5 _ _) (size39 _ rfl) rfl (pv_row_one _) ?_; rw [alloc_setRow]))
  obtain ⟨X8, hX8⟩ : ∃ q, q = v5.heap.size := ⟨_, rfl⟩
  obtain ⟨v6, hv6⟩ : ∃ q, q = v5.alloc (.cells (pvC pv8).toArray 39) := ⟨_, rfl⟩
  have hb_ : Below v5.heap.size v5 v6 := by rw [hv6]; exact (Below.refl _ _).alloc (Nat.le_refl _) _
  have HBX8 := Lib.hid (show Blk v6 X8 39 (pvC pv8).toArray by rw [hv6, hX8]; exact Blk.new _ _ _)
  have hlX8 : w.heap.size ≤ X8 := by have := HB.out.size; omega
  rw [← hv6, ← hX8]
  have hoX6X8 : X6 < X8 := by have := HBX6.out.lt; omega
  replace HB := Lib.hid (HB.out.trans (hb_.mono HB.out.size))
  replace HWb := Lib.hid (HWb.out.below hb_ HWb.out.lt)
  replace Hp6 := Lib.hid (Hp6.out.below hb_)
  replace HBX6 := Lib.hid (HBX6.out.below hb_ HBX6.out.lt)
  replace H7 := Lib.hid (H7.out.below hb_)
  replace Hp8 := Lib.hid (Hp8.out.below hb_)
  clear hb_ hv6 hX8
  refine wp_region_flowF [28, 29, 30, 31, 32, 33, 34, 35, 36, 37, 38, 39, 40, 41, 42, 43] [(Spec.is (.slice A7 L c7), false), (Spec.is (.string (str bs)), false), (Spec.is (.agg (pvC pv6).toArray), false), (spBytes bs, false), (Spec.is (.string (str bs)), false), (Spec.is (.bool false), false), (Spec.is (.bool false), false), (Spec.is (.int .i64 0), false), (Spec.is (.bool false), false), (Spec.is (.bool false), false), (Spec.is (.bool false), false), (Spec.is (.agg (pvC pv6).toArray), false), (Spec.is (.agg (pvC pv8).toArray), false), (Spec.is (.bool true), false), (Spec.is (.bool false), false), (Spec.is (.bool false), false)] 121 (by kernel_rfl) rfl (by decide) rfl (by decide) (by kernel_rfl) ?_ ?_
  · refine ⟨?_, ?_, ?_, ?_, ?_, ?_, ?_, ?_, ?_, ?_, ?_, ?_, ?_, ?_, ?_, ?_, trivial⟩
    · intro a W hE hb hs
      have h7 : a.eval (.tmp 7) = .slice A7 L c7 := hb 7 (by decide)
      refine flow0 rfl ?_
      exact val_move _ rfl _ h7 ⟨rfl, trivial⟩
    · intro a W hE hb hs
      have h28 : a.eval (.tmp 28) = .slice A7 L c7 := hs 0 (by decide)
      refine flow0 rfl ?_
      have hcv := convert_bytes A7 L c7 bs W (H7.out.below (ext_below hE))
      intro K hK
      unfold Oper.wp execOp
      simp only [h28]
      simp [go_sem, hcv]
      exact hK _ _ ⟨Below.refl _ _, rfl, trivial⟩
    · intro a W hE hb hs
      have h6 : a.eval (.tmp 6) = .pointer (some ⟨X6, 0, none⟩) := hb 6 (by decide)
      refine flow0 rfl ?_
      exact val_load_row 39 _ rfl X6 0 h6 (pvC pv6) d39 (Blk.range (HBX6.out.below (ext_below hE) HBX6.out.lt)) hd39 hrow39 (by rw [pvC_len]; kernel_rfl) ⟨rfl, trivial⟩
    · intro a W hE hb hs
      have h30 : a.eval (.tmp 30) = .agg (pvC pv6).toArray := hs 2 (by decide)
      refine flow0 rfl ?_
      exact val_call 27 _ _ rfl (by kernel_rfl) [.agg (pvC pv6).toArray] (by show [a.eval (.tmp 30)] = _; rw [h30]) ((RNBytesL_any pv6 p bs W (Hp6.out.below (ext_below hE)) Hval.out Hbs.out.symm).mono (by rintro e W' ⟨⟨A', c', rfl, hc', hr'⟩, hb'⟩; exact ⟨_, rfl, hb', ⟨A', _, c', rfl, hr'⟩, trivial⟩))
    · intro a W hE hb hs
      have h31 : ∃ (A : Option Addr) (n c : Nat), (a.eval (.tmp 31)) = .slice A n c ∧ Rd W 1 A n (bs.map byteV) := hs 3 (by decide)
      refine flow0 rfl ?_
      obtain ⟨A', n', c', e_, hr_⟩ := h31
      have hcv := convert_bytes A' n' c' bs W hr_
      intro K hK
      unfold Oper.wp execOp
      simp only [e_]
      simp [go_sem, hcv]
      exact hK _ _ ⟨Below.refl _ _, rfl, trivial⟩
    · intro a W hE hb hs
      have h29 : a.eval (.tmp 29) = .string (str bs) := hs 1 (by decide)
      have h32 : a.eval (.tmp 32) = .string (str bs) := hs 4 (by decide)
      refine flow0 rfl ?_
      intro K hK
      unfold Oper.wp execOp
      simp only [h29, h32]
      simp [go_sem]
      exact hK _ _ ⟨Below.refl _ _, rfl, trivial⟩
    · intro a W hE hb hs
      have h33 : a.eval (.tmp 33) = .bool false := hs 5 (by decide)
      refine flow0 rfl ?_
      exact val_move _ rfl _ h33 ⟨rfl, trivial⟩
    · intro a W hE hb hs
      have h9 : a.eval (.tmp 9) = .int .i64 0 := hb 9 (by decide)
      have h34 : a.eval (.tmp 34) = .bool false := hs 6 (by decide)
      refine flowY rfl rfl h34 ?_
      exact val_move _ rfl _ h9 ⟨rfl, trivial⟩
    · intro a W hE hb hs
      have h35 : a.eval (.tmp 35) = .int .i64 0 := hs 7 (by decide)
      have h34 : a.eval (.tmp 34) = .bool false := hs 6 (by decide)
      refine flowY rfl rfl h34 ?_
      intro K hK
      unfold Oper.wp execOp
      simp only [h35, BigFrame.eval_const]
      simp [go_sem]
      exact hK _ _ ⟨Below.refl _ _, rfl, trivial⟩
    · intro a W hE hb hs
      have h34 : a.eval (.tmp 34) = .bool false := hs 6 (by decide)
      have h36 : a.eval (.tmp 36) = .bool false := hs 8 (by decide)
      refine flow0 rfl ?_
      exact val_pick _ _ _ rfl false h34 _ (by rw [if_neg (by decide)]; exact h36) ⟨rfl, trivial⟩
    · intro a W hE hb hs
      have h37 : a.eval (.tmp 37) = .bool false := hs 9 (by decide)
      refine flow0 rfl ?_
      exact val_move _ rfl _ h37 ⟨rfl, trivial⟩
    · intro a W hE hb hs
      have h6 : a.eval (.tmp 6) = .pointer (some ⟨X6, 0, none⟩) := hb 6 (by decide)
      have h38 : a.eval (.tmp 38) = .bool false := hs 10 (by decide)
      refine flowY rfl rfl h38 ?_
      exact val_load_row 39 _ rfl X6 0 h6 (pvC pv6) d39 (Blk.range (HBX6.out.below (ext_below hE) HBX6.out.lt)) hd39 hrow39 (by rw [pvC_len]; kernel_rfl) ⟨rfl, trivial⟩
    · intro a W hE hb hs
      have h8 : a.eval (.tmp 8) = .pointer (some ⟨X8, 0, none⟩) := hb 8 (by decide)
      have h38 : a.eval (.tmp 38) = .bool false := hs 10 (by decide)
      refine flowY rfl rfl h38 ?_
      exact val_load_row 39 _ rfl X8 0 h8 (pvC pv8) d39 (Blk.range (HBX8.out.below (ext_below hE) HBX8.out.lt)) hd39 hrow39 (by rw [pvC_len]; kernel_rfl) ⟨rfl, trivial⟩
    · intro a W hE hb hs
      have h39 : a.eval (.tmp 39) = .agg (pvC pv6).toArray := hs 11 (by decide)
      have h40 : a.eval (.tmp 40) = .agg (pvC pv8).toArray := hs 12 (by decide)
      have h38 : a.eval (.tmp 38) = .bool false := hs 10 (by decide)
      refine flowY rfl rfl h38 ?_
      exact val_call 18 _ _ rfl (by kernel_rfl) [.agg (pvC pv6).toArray, .agg (pvC pv8).toArray] (by show [a.eval (.tmp 39), a.eval (.tmp 40)] = _; rw [h39, h40]) ((Same_any pv6 pv8 p p W (Hp6.out.below (ext_below hE)) (Hp8.out.below (ext_below hE)) Hok.out Hok.out).mono (by rintro e W' ⟨rfl, hb⟩; rw [decide_eq_true rfl]; exact ⟨_, rfl, hb, rfl, trivial⟩))
    · intro a W hE hb hs
      have h41 : a.eval (.tmp 41) = .bool true := hs 13 (by decide)
      have h38 : a.eval (.tmp 38) = .bool false := hs 10 (by decide)
      refine flowY rfl rfl h38 ?_
      exact val_not _ _ rfl _ h41 ⟨rfl, trivial⟩
    · intro a W hE hb hs
      have h38 : a.eval (.tmp 38) = .bool false := hs 10 (by decide)
      have h42 : a.eval (.tmp 42) = .bool false := hs 14 (by decide)
      refine flow0 rfl ?_
      exact val_pick _ _ _ rfl false h38 _ (by rw [if_neg (by decide)]; exact h42) ⟨rfl, trivial⟩
  intro f W hb hT hp hd
  have e_ : f 43 = .bool false := hT 15 (by decide)
  simp only [putV, List.foldl_cons, List.foldl_nil, Act.put, List.setIfInBounds_toArray, List.set_cons_succ, List.set_cons_zero, Exit.then]
  rw [e_]
  obtain ⟨v7, rfl⟩ : ∃ q, q = W := ⟨_, rfl⟩
  have hb_ := hb
  clear hb hT hp hd e_
  replace HB := Lib.hid (HB.out.trans (hb_.mono HB.out.size))
  replace HWb := Lib.hid (HWb.out.below hb_ HWb.out.lt)
  replace Hp6 := Lib.hid (Hp6.out.below hb_)
  replace HBX6 := Lib.hid (HBX6.out.below hb_ HBX6.out.lt)
  replace H7 := Lib.hid (H7.out.below hb_)
  replace Hp8 := Lib.hid (Hp8.out.below hb_)
  replace HBX8 := Lib.hid (HBX8.out.below hb_ HBX8.out.lt)
  clear hb_
  clear Hp6 Hp8 HBX6 HBX8
  obtain ⟨K, hK⟩ : ∃ K, L = K + 1 := ⟨L - 1, by omega⟩
  have HK := Lib.hid hK
  have hLs : IntKind.i64.wrap ((L : Int) - 1) = (K : Int) := by rw [IntKind.wrap_i64, hK]; push_cast; omega
  clear hK
  have hsl := run_by_h A7 L c7 K (by have := HK.out; omega)
  go_upto_region 8 with fail
  clear hLs hsl
  refine (Parse0_any A7 K c7 (bs.take K) pk0 310 v7 (rd_take H7.out (by have := HK.out; omega)) (by have := HK.out; omega) (by rw [show K = bs.length - 1 by have := HK.out; have := HL.out; omega, Hbs.out]; exact ans_less Hval.out)).mono ?_
  rintro e v8 ⟨⟨pv10, rfl, hp_⟩, hb_⟩
  replace HB := Lib.hid (HB.out.trans (hb_.mono HB.out.size))
  replace HWb := Lib.hid (HWb.out.below hb_ HWb.out.lt)
  replace H7 := Lib.hid (H7.out.below hb_)
  clear hb_
  clear hp_
  go_upto_region 8 with (first | (refine wpList_alloc0 rfl 39 rfl (pvC pv0).toArray _ i39 hi39 hz39 rfl ?_; simp only [Act.put, List.setIfInBounds_toArray, List.set_cons_succ, List.set_cons_zero]; try simp only [World.size_alloc]) | (refine wpList_store_row rfl 39 (.tmp 10) (.tmp 51) rfl v8.heap.size (pvC pv10).toArray rfl rfl 39 _ (Blk.new v8 _ _) (size39 _ rfl) rfl (pv_row_one _) ?_; rw [alloc_setRow]))
  obtain ⟨X10, hX10⟩ : ∃ q, q = v8.heap.size := ⟨_, rfl⟩
  obtain ⟨v9, hv9⟩ : ∃ q, q = v8.alloc (.cells (pvC pv10).toArray 39) := ⟨_, rfl⟩
  have hb_ : Below v8.heap.size v8 v9 := by rw [hv9]; exact (Below.refl _ _).alloc (Nat.le_refl _) _
  have HBX10 := Lib.hid (show Blk v9 X10 39 (pvC pv10).toArray by rw [hv9, hX10]; exact Blk.new _ _ _)
  have hlX10 : w.heap.size ≤ X10 := by have := HB.out.size; omega
  rw [← hv9, ← hX10]
  replace HB := Lib.hid (HB.out.trans (hb_.mono HB.out.size))
  replace HWb := Lib.hid (HWb.out.below hb_ HWb.out.lt)
  replace H7 := Lib.hid (H7.out.below hb_)
  clear hb_ hv9 hX10
  clear HBX10
  clear HK
  have q1 : (0 : Int) ≤ 1 := by omega
  obtain ⟨bM, hbM⟩ : ∃ q, q = v9.heap.size := ⟨_, rfl⟩
  obtain ⟨v10, hv10⟩ : ∃ q, q = v9.alloc (.cells #[] 5) := ⟨_, rfl⟩
  have HbM := Lib.hid (show Below v9.heap.size v9 v10 by rw [hv10]; exact (Below.refl _ _).alloc (Nat.le_refl _) _)
  have HoM := Lib.hid (show AppZ v10 bM 5 1 (.slice (some ⟨bM, 0, none⟩) 0 0) 0 [] by rw [hv10, hbM]; exact AppZ.empty v9 (Nat.le_refl _) _)
  have hsM : bM ≤ v10.heap.size := by have := HbM.out.size; omega
  have HzM := Lib.hid hbM
  have HWM := Lib.hid hv10
  clear hv10 hbM
  go_upto_region 9 with (at_builtin; rw [← HWM.out, ← HzM.out]; refine wpList_appz rfl (.tmp 53) (.tmp 54) 26 rfl 5 i0 (.int .u8 0) 1 1 Try.underlying26 hi0 hz0 hz1 hz2 rfl (by omega) bM hsM _ 0 [] rfl HoM.out A7 L c7 (bs.map byteV) rfl (H7.out.below HbM.out) (oneB _) (by unfold maxLen; omega) (by omega) ?_; intro v_ waM ha_ hg_; rw [Nat.zero_add, List.nil_append] at ha_; have hb_ := (Below.refl bM _).grown hg_ hsM (fun g e => (HoM.out.lt g e).1); obtain ⟨AM, cM, rfl, hcM, hr_⟩ := ha_.rd; have HAM := Lib.hid ha_; have HRM := Lib.hid hr_; have HBM := Lib.hid (show Below v9.heap.size v9 waM from HbM.out.trans (HzM.out ▸ hb_)); clear ha_ hr_ hb_ hg_)
  have cw : waM.cell? ⟨w.heap.size + 1, 1, none⟩ = some (.int .u16 (q1n : Int)) := ((HWb.out.below HBM.out HWb.out.lt).cell 1).trans rfl
  obtain ⟨y, hy⟩ : ∃ y : UInt8, y = UInt8.ofNat q1n := ⟨_, rfl⟩
  have hyw : IntKind.u8.wrap (q1n : Int) = (y.toNat : Int) := by rw [hy, UInt8.toNat_ofNat', IntKind.wrap_u8]; omega
  have Hy := Lib.hid hy
  clear hy
  obtain ⟨wy, hwy⟩ : ∃ q, q = waM.alloc (.cells #[.int .u8 (y.toNat : Int)] 5) := ⟨_, rfl⟩
  have hby : Below waM.heap.size waM wy := by rw [hwy]; exact (Below.refl _ _).alloc (Nat.le_refl _) _
  have Hry := Lib.hid (show Rd wy 1 (some ⟨waM.heap.size, 0, none⟩) 1 ([y].map byteV) by rw [hwy]; exact rd_newB _ _ _ rfl (by decide))
  have HAy := Lib.hid (HAM.out.below hby (Nat.le_refl _))
  have hsy : bM ≤ wy.heap.size := by have := hby.size; have := HBM.out.size; have := HzM.out; omega
  have Hby := Lib.hid hby
  have HWY := Lib.hid hwy
  clear hwy hby
  go_upto_region 10 with (at_builtin; rw [← HWY.out]; refine wpList_appz rfl (.tmp 57) (.tmp 61) 26 rfl 5 i0 (.int .u8 0) 1 1 Try.underlying26 hi0 hz0 hz1 hz2 rfl (by omega) bM hsy _ L (bs.map byteV) rfl HAy.out (some ⟨waM.heap.size, 0, none⟩) 1 1 ([y].map byteV) rfl Hry.out (oneB _) (by unfold maxLen; omega) (by omega) ?_; intro v_ wz ha_ hg_; rw [← List.map_append] at ha_; have hb_ := (Below.refl bM _).grown hg_ hsy (fun g e => (HAy.out.lt g e).1); obtain ⟨A13, c13, rfl, hc13, hr_⟩ := ha_.rd; have Hr13 := Lib.hid hr_; have Hb13 := Lib.hid (show Below v9.heap.size v9 wz from HBM.out.trans ((Hby.out.mono HBM.out.size).trans (HzM.out ▸ hb_))); clear ha_ hr_ hb_ hg_)
  replace HB := Lib.hid (HB.out.trans (Hb13.out.mono HB.out.size))
  replace HWb := Lib.hid (HWb.out.below Hb13.out HWb.out.lt)
  replace H7 := Lib.hid (H7.out.below Hb13.out)
  clear cw hyw Hb13 HAy Hry HWY Hby hsy HAM HRM HBM HbM HoM HzM HWM hsM hcM
  refine (Parse0_any A13 (L + 1) c13 (bs ++ [y]) pk0 310 wz Hr13.out hc13 (by rw [Hbs.out]; exact ans_more Hval.out (by simp))).mono ?_
  rintro e v11 ⟨⟨pv13, rfl, hp_⟩, hb_⟩
  replace HB := Lib.hid (HB.out.trans (hb_.mono HB.out.size))
  replace HWb := Lib.hid (HWb.out.below hb_ HWb.out.lt)
  replace H7 := Lib.hid (H7.out.below hb_)
  clear hb_
  clear hp_ Hr13
  go_upto_region 10 with (first | (refine wpList_alloc0 rfl 39 rfl (pvC pv0).toArray _ i39 hi39 hz39 rfl ?_; simp only [Act.put, List.setIfInBounds_toArray, List.set_cons_succ, List.set_cons_zero]; try simp only [World.size_alloc]) | (refine wpList_store_row rfl 39 (.tmp 13) (.tmp 64) rfl v11.heap.size (pvC pv13).toArray rfl rfl 39 _ (Blk.new v11 _ _) (size39 _ rfl) rfl (pv_row_one _) ?_; rw [alloc_setRow]))
  obtain ⟨X13, hX13⟩ : ∃ q, q = v11.heap.size := ⟨_, rfl⟩
  obtain ⟨v12, hv12⟩ : ∃ q, q = v11.alloc (.cells (pvC pv13).toArray 39) := ⟨_, rfl⟩
  have hb_ : Below v11.heap.size v11 v12 := by rw [hv12]; exact (Below.refl _ _).alloc (Nat.le_refl _) _
  have HBX13 := Lib.hid (show Blk v12 X13 39 (pvC pv13).toArray by rw [hv12, hX13]; exact Blk.new _ _ _)
  have hlX13 : w.heap.size ≤ X13 := by have := HB.out.size; omega
  rw [← hv12, ← hX13]
  replace HB := Lib.hid (HB.out.trans (hb_.mono HB.out.size))
  replace HWb := Lib.hid (HWb.out.below hb_ HWb.out.lt)
  replace H7 := Lib.hid (H7.out.below hb_)
  clear hb_ hv12 hX13
  clear HBX13
  obtain ⟨bN, hbN⟩ : ∃ q, q = v12.heap.size := ⟨_, rfl⟩
  obtain ⟨v13, hv13⟩ : ∃ q, q = v12.alloc (.cells #[] 5) := ⟨_, rfl⟩
  have HbN := Lib.hid (show Below v12.heap.size v12 v13 by rw [hv13]; exact (Below.refl _ _).alloc (Nat.le_refl _) _)
  have HoN := Lib.hid (show AppZ v13 bN 5 1 (.slice (some ⟨bN, 0, none⟩) 0 0) 0 [] by rw [hv13, hbN]; exact AppZ.empty v12 (Nat.le_refl _) _)
  have hsN : bN ≤ v13.heap.size := by have := HbN.out.size; omega
  have HzN := Lib.hid hbN
  have HWN := Lib.hid hv13
  clear hv13 hbN
  go_upto_region 11 with (at_builtin; rw [← HWN.out, ← HzN.out]; refine wpList_appz rfl (.tmp 66) (.tmp 67) 26 rfl 5 i0 (.int .u8 0) 1 1 Try.underlying26 hi0 hz0 hz1 hz2 rfl (by omega) bN hsN _ 0 [] rfl HoN.out A7 L c7 (bs.map byteV) rfl (H7.out.below HbN.out) (oneB _) (by unfold maxLen; omega) (by omega) ?_; intro v_ waN ha_ hg_; rw [Nat.zero_add, List.nil_append] at ha_; have hb_ := (Below.refl bN _).grown hg_ hsN (fun g e => (HoN.out.lt g e).1); obtain ⟨AN, cN, rfl, hcN, hr_⟩ := ha_.rd; have HAN := Lib.hid ha_; have HRN := Lib.hid hr_; have HBN := Lib.hid (show Below v12.heap.size v12 waN from HbN.out.trans (HzN.out ▸ hb_)); clear ha_ hr_ hb_ hg_)
  obtain ⟨g, o, hAe, _⟩ := HRN.out.2.2 (by omega)
  subst hAe
  obtain ⟨cur, hcur⟩ := HAN.out.row (by omega) g rfl
  have hbg : bN ≤ g := (HAN.out.lt g rfl).1
  have Hcur := Lib.hid hcur
  clear hcur
  have HXb := Lib.hid (HWb.out.below HBN.out HWb.out.lt)
  obtain ⟨k, hk⟩ : ∃ q, q = q0n % L := ⟨_, rfl⟩
  have hkL : k < L := by rw [hk]; exact Nat.mod_lt _ (by omega)
  have hkm : (q0n : Int).tmod (L : Int) = (k : Int) := by rw [hk, Int.tmod_eq_emod_of_nonneg (by omega)]; push_cast; rfl
  clear hk
  obtain ⟨z, hz⟩ : ∃ q, bs[k]? = some q := ⟨_, List.getElem?_eq_getElem (by have := HL.out; omega)⟩
  have Hz := Lib.hid hz
  clear hz
  have hq0w : IntKind.i64.wrap (q0n : Int) = (q0n : Int) := by rw [IntKind.wrap_i64]; omega
  have hyw : IntKind.u8.wrap (q1n : Int) = (y.toNat : Int) := by rw [Hy.out, UInt8.toNat_ofNat', IntKind.wrap_u8]; omega
  obtain ⟨zy, hzy⟩ : ∃ q, q = z ^^^ y := ⟨_, rfl⟩
  have Hzy := Lib.hid hzy
  have hxor := xor_bb z y
  rw [← hzy] at hxor
  clear hzy
  have hL0 : ¬ ((L : Int) = 0) := by omega
  have hL0n : ¬ (L = 0) := by omega
  have hk0 : (0 : Int) ≤ (k : Int) := by omega
  have hkl : (k : Int) < (L : Int) := by omega
  refine wp_region_flow_tail 14 [69, 70, 71, 72, 73, 74, 75, 76, 77, 78, 79, 80, 81, 82] [(Spec.is (.slice (some ⟨g, o, none⟩) L cN), false), (Spec.is (.pointer (some ⟨w.heap.size + 1, 0, none⟩)), false), (Spec.is (.int .u16 (q0n : Int)), false), (Spec.is (.int .i64 (q0n : Int)), false), (Spec.is (.slice A7 L c7), false), (Spec.is (.int .i64 (L : Int)), false), (Spec.is (.int .i64 (k : Int)), false), (Spec.is (.pointer (some ⟨g, o + k, none⟩)), false), (Spec.is (.int .u8 (z.toNat : Int)), false), (Spec.is (.pointer (some ⟨w.heap.size + 1, 1, none⟩)), false), (Spec.is (.int .u16 (q1n : Int)), false), (Spec.is (.int .u8 (y.toNat : Int)), false), (Spec.is (.int .u8 (zy.toNat : Int)), false), (Spec.is (.pointer (some ⟨g, o + k, none⟩)), false)] 121 (by kernel_rfl) (List.take_append_drop _ _) rfl (by kernel_rfl) (by kernel_rfl) (by kernel_rfl) (by decide) (by kernel_rfl) (by kernel_rfl) (fun _ _ d _ _ h => by cases d <;> exact h) rfl (by decide) rfl (by decide) (by kernel_rfl) ?_ ?_
  · refine ⟨?_, ?_, ?_, ?_, ?_, ?_, ?_, ?_, ?_, ?_, ?_, ?_, ?_, ?_, trivial⟩
    · intro a W hE hb hs
      have h15 : a.eval (.tmp 15) = .slice (some ⟨g, o, none⟩) L cN := hb 15 (by decide)
      refine flow0 rfl ?_
      exact val_move _ rfl _ h15 ⟨rfl, trivial⟩
    · intro a W hE hb hs
      have h3 : a.eval (.tmp 3) = .pointer (some ⟨w.heap.size + 1, 0, none⟩) := hb 3 (by decide)
      refine flow0 rfl ?_
      intro K hK
      unfold Oper.wp execOp
      simp only [h3, BigFrame.eval_const]
      simp [go_sem]
      exact hK _ _ ⟨Below.refl _ _, rfl, trivial⟩
    · intro a W hE hb hs
      have h70 : a.eval (.tmp 70) = .pointer (some ⟨w.heap.size + 1, 0, none⟩) := hs 1 (by decide)
      refine flow0 rfl ?_
      have g0 : W.cell? ⟨w.heap.size + 1, 0, none⟩ = some (.int .u16 (q0n : Int)) := ((HXb.out.below (ext_below hE) HXb.out.lt).cell 0).trans rfl
      intro K hK
      unfold Oper.wp execOp
      simp only [h70]
      simp [go_sem, g0]
      exact hK _ _ ⟨Below.refl _ _, rfl, trivial⟩
    · intro a W hE hb hs
      have h71 : a.eval (.tmp 71) = .int .u16 (q0n : Int) := hs 2 (by decide)
      refine flow0 rfl ?_
      intro K hK
      unfold Oper.wp execOp
      simp only [h71]
      simp [go_sem, hq0w]
      exact hK _ _ ⟨Below.refl _ _, rfl, trivial⟩
    · intro a W hE hb hs
      have h7 : a.eval (.tmp 7) = .slice A7 L c7 := hb 7 (by decide)
      refine flow0 rfl ?_
      exact val_move _ rfl _ h7 ⟨rfl, trivial⟩
    · intro a W hE hb hs
      have h73 : a.eval (.tmp 73) = .slice A7 L c7 := hs 4 (by decide)
      refine flow0 rfl ?_
      exact val_len _ 26 5 rfl Try.underlying26 _ _ _ h73 ⟨rfl, trivial⟩
    · intro a W hE hb hs
      have h72 : a.eval (.tmp 72) = .int .i64 (q0n : Int) := hs 3 (by decide)
      have h74 : a.eval (.tmp 74) = .int .i64 (L : Int) := hs 5 (by decide)
      refine flow0 rfl ?_
      intro K hK
      unfold Oper.wp execOp
      simp only [h72, h74]
      simp [go_sem, hkm, hL0n]
      exact hK _ _ ⟨Below.refl _ _, rfl, trivial⟩
    · intro a W hE hb hs
      have h69 : a.eval (.tmp 69) = .slice (some ⟨g, o, none⟩) L cN := hs 0 (by decide)
      have h75 : a.eval (.tmp 75) = .int .i64 (k : Int) := hs 6 (by decide)
      refine flow0 rfl ?_
      intro K hK
      unfold Oper.wp execOp
      simp only [h69, h75]
      simp [go_sem, hk0, hkl]
      exact hK _ _ ⟨Below.refl _ _, rfl, trivial⟩
    · intro a W hE hb hs
      have h76 : a.eval (.tmp 76) = .pointer (some ⟨g, o + k, none⟩) := hs 7 (by decide)
      refine flow0 rfl ?_
      have g0 : W.cell? ⟨g, o + k, none⟩ = some (.int .u8 (z.toNat : Int)) := by
        obtain ⟨b', o', e', hc⟩ := (HRN.out.below (ext_below hE)).2.2 (by omega)
        cases e'
        exact hc k (byteV z) (by rw [List.getElem?_map, Hz.out]; rfl)
      intro K hK
      unfold Oper.wp execOp
      simp only [h76]
      simp [go_sem, g0]
      exact hK _ _ ⟨Below.refl _ _, rfl, trivial⟩
    · intro a W hE hb hs
      have h3 : a.eval (.tmp 3) = .pointer (some ⟨w.heap.size + 1, 0, none⟩) := hb 3 (by decide)
      refine flow0 rfl ?_
      intro K hK
      unfold Oper.wp execOp
      simp only [h3, BigFrame.eval_const]
      simp [go_sem]
      exact hK _ _ ⟨Below.refl _ _, rfl, trivial⟩
    · intro a W hE hb hs
      have h78 : a.eval (.tmp 78) = .pointer (some ⟨w.heap.size + 1, 1, none⟩) := hs 9 (by decide)
      refine flow0 rfl ?_
      have g0 : W.cell? ⟨w.heap.size + 1, 1, none⟩ = some (.int .u16 (q1n : Int)) := ((HXb.out.below (ext_below hE) HXb.out.lt).cell 1).trans rfl
      intro K hK
      unfold Oper.wp execOp
      simp only [h78]
      simp [go_sem, g0]
      exact hK _ _ ⟨Below.refl _ _, rfl, trivial⟩
    · intro a W hE hb hs
      have h79 : a.eval (.tmp 79) = .int .u16 (q1n : Int) := hs 10 (by decide)
      refine flow0 rfl ?_
      intro K hK
      unfold Oper.wp execOp
      simp only [h79]
      simp [go_sem, hyw]
      exact hK _ _ ⟨Below.refl _ _, rfl, trivial⟩
    · intro a W hE hb hs
      have h77 : a.eval (.tmp 77) = .int .u8 (z.toNat : Int) := hs 8 (by decide)
      have h80 : a.eval (.tmp 80) = .int .u8 (y.toNat : Int) := hs 11 (by decide)
      refine flow0 rfl ?_
      exact val_run _ (run_bin_opI .xor 5 (.tmp 77) (.tmp 80) 5 rfl W _ _ _ h77 h80 (by simp [eqGuard, go_sem]) (hxor W)) ⟨rfl, trivial⟩
    · intro a W hE hb hs
      have h69 : a.eval (.tmp 69) = .slice (some ⟨g, o, none⟩) L cN := hs 0 (by decide)
      have h75 : a.eval (.tmp 75) = .int .i64 (k : Int) := hs 6 (by decide)
      refine flow0 rfl ?_
      intro K hK
      unfold Oper.wp execOp
      simp only [h69, h75]
      simp [go_sem, hk0, hkl]
      exact hK _ _ ⟨Below.refl _ _, rfl, trivial⟩
  intro f W hb hT hp hd
  have e81 : f 81 = .int .u8 (zy.toNat : Int) := hT 12 (by decide)
  have e82 : f 82 = .pointer (some ⟨g, o + k, none⟩) := hT 13 (by decide)
  simp only [putV, List.foldl_cons, List.foldl_nil, Act.put, List.setIfInBounds_toArray, List.set_cons_succ, List.set_cons_zero]
  rw [e81, e82]
  have hcurW := Hcur.out.below hb Hcur.out.lt
  have frz := hcurW.frozen (o + k)
  have cz : W.cell? ⟨g, o + k, none⟩ = some (.int .u8 (z.toNat : Int)) := by
    obtain ⟨b', o', e', hc⟩ := (HRN.out.below hb).2.2 (by omega)
    cases e'
    exact hc k (byteV z) (by rw [List.getElem?_map, Hz.out]; rfl)
  obtain ⟨wt, hwt⟩ : ∃ q, q = W.setCell ⟨g, o + k, none⟩ (.int .u8 (zy.toNat : Int)) := ⟨_, rfl⟩
  have hrt : Rd wt 1 (some ⟨g, o, none⟩) L ((bs.set k zy).map byteV) := by rw [hwt]; exact rd_setB (HRN.out.below hb) hkL zy
  have hb_ : Below v12.heap.size v12 wt := by rw [hwt]; exact Below.setCell (HBN.out.trans (hb.mono HBN.out.size)) (show _ ≤ g by have := HzN.out; omega) _
  obtain ⟨cs, hcs⟩ : ∃ q, q = bs.set k zy := ⟨_, rfl⟩
  rw [← hcs] at hrt
  have H15 := Lib.hid hrt
  have HWT := Lib.hid hwt
  replace HB := Lib.hid (HB.out.trans (hb_.mono HB.out.size))
  replace HWb := Lib.hid (HWb.out.below hb_ HWb.out.lt)
  replace H7 := Lib.hid (H7.out.below hb_)
  clear hb_ hrt hcs hwt hb hT hp hd e81 e82
  clear hkm hq0w hyw hxor hL0 hL0n hk0 hkl
  go_upto_region 12 with fail
  rw [← HWT.out]
  clear HWT cz frz hcurW HXb Hcur HAN HRN HBN HbN HoN HzN HWN Hz Hzy H7 HWb
  obtain ⟨T, hT⟩ : ∃ q, q = ansP cs := ⟨_, rfl⟩
  have HT := Lib.hid hT
  clear hT
  go_upto_region 13 with fail
  refine (Parse0_any (some ⟨g, o, none⟩) L cN cs T.1 T.2 wt H15.out hcN HT.out.symm).mono ?_
  rintro e v14 ⟨⟨pv16, rfl, hp_⟩, hb_⟩
  replace HB := Lib.hid (HB.out.trans (hb_.mono HB.out.size))
  replace H15 := Lib.hid (H15.out.below hb_)
  clear hb_
  have Hp16 := Lib.hid hp_
  clear hp_
  go_upto_region 13 with (first | (refine wpList_alloc0 rfl 39 rfl (pvC pv0).toArray _ i39 hi39 hz39 rfl ?_; simp only [Act.put, List.setIfInBounds_toArray, List.set_cons_succ, List.set_cons_zero]; try simp only [World.size_alloc]) | (refine wpList_store_row rfl 39 (.tmp 16) (.tmp 86) rfl v14.heap.size (pvC pv16).toArray rfl rfl 39 _ (Blk.new v14 _ _) (size39 _ rfl) rfl (pv_row_one _) ?_; rw [alloc_setRow]))
  obtain ⟨X16, hX16⟩ : ∃ q, q = v14.heap.size := ⟨_, rfl⟩
  obtain ⟨v15, hv15⟩ : ∃ q, q = v14.alloc (.cells (pvC pv16).toArray 39) := ⟨_, rfl⟩
  have hb_ : Below v14.heap.size v14 v15 := by rw [hv15]; exact (Below.refl _ _).alloc (Nat.le_refl _) _
  have HBX16 := Lib.hid (show Blk v15 X16 39 (pvC pv16).toArray by rw [hv15, hX16]; exact Blk.new _ _ _)
  have hlX16 : w.heap.size ≤ X16 := by have := HB.out.size; omega
  rw [← hv15, ← hX16]
  replace HB := Lib.hid (HB.out.trans (hb_.mono HB.out.size))
  replace H15 := Lib.hid (H15.out.below hb_)
  replace Hp16 := Lib.hid (Hp16.out.below hb_)
  clear hb_ hv15 hX16
  rcases ans_cases cs with ⟨h1, h2⟩ | ⟨h1, h2, h3, h4⟩
  · skip
    have HTe := Lib.hid (show T.2 = 310 by rw [HT.out]; exact h2)
    have HTr := Lib.hid (show T.1 = pk0 by rw [HT.out]; exact h1)
    clear h1 h2
    rw [HTe.out]
    refine wp_region_flowF [88, 89, 90, 91, 92, 93, 94, 95, 96, 97, 98, 99, 100, 101, 102] [(Spec.is (.int .i64 310), false), (Spec.is (.bool false), false), (Spec.is (.bool false), false), (Spec.any, false), (Spec.any, false), (Spec.any, false), (Spec.is undef, false), (Spec.any, false), (Spec.any, false), (Spec.any, false), (Spec.any, false), (Spec.any, false), (Spec.any, false), (Spec.any, false), (Spec.is (.bool false), false)] 121 (by kernel_rfl) rfl (by decide) rfl (by decide) (by kernel_rfl) ?_ ?_
    · refine ⟨?_, ?_, ?_, ?_, ?_, ?_, ?_, ?_, ?_, ?_, ?_, ?_, ?_, ?_, ?_, trivial⟩
      · intro a W hE hb hs
        have h17 : a.eval (.tmp 17) = .int .i64 310 := hb 17 (by decide)
        refine flow0 rfl ?_
        exact val_move _ rfl _ h17 ⟨rfl, trivial⟩
      · intro a W hE hb hs
        have h88 : a.eval (.tmp 88) = .int .i64 310 := hs 0 (by decide)
        refine flow0 rfl ?_
        intro K hK
        unfold Oper.wp execOp
        simp only [h88, BigFrame.eval_const]
        simp [go_sem]
        exact hK _ _ ⟨Below.refl _ _, rfl, trivial⟩
      · intro a W hE hb hs
        have h89 : a.eval (.tmp 89) = .bool false := hs 1 (by decide)
        refine flow0 rfl ?_
        exact val_move _ rfl _ h89 ⟨rfl, trivial⟩
      · intro a W hE hb hs
        have h90 : a.eval (.tmp 90) = .bool false := hs 2 (by decide)
        exact flowN rfl rfl h90 (by decide) ⟨trivial, rfl⟩
      · intro a W hE hb hs
        have h90 : a.eval (.tmp 90) = .bool false := hs 2 (by decide)
        exact flowN rfl rfl h90 (by decide) ⟨trivial, rfl⟩
      · intro a W hE hb hs
        have h90 : a.eval (.tmp 90) = .bool false := hs 2 (by decide)
        exact flowN rfl rfl h90 (by decide) ⟨trivial, rfl⟩
      · intro a W hE hb hs
        have h90 : a.eval (.tmp 90) = .bool false := hs 2 (by decide)
        exact flowN rfl rfl h90 (by decide) ⟨rfl, rfl⟩
      · intro a W hE hb hs
        have h94 : a.eval (.tmp 94) = undef := hs 6 (by decide)
        exact flowU rfl rfl h94 ⟨trivial, rfl⟩
      · intro a W hE hb hs
        have h94 : a.eval (.tmp 94) = undef := hs 6 (by decide)
        exact flowU rfl rfl h94 ⟨trivial, rfl⟩
      · intro a W hE hb hs
        have h94 : a.eval (.tmp 94) = undef := hs 6 (by decide)
        exact flowU rfl rfl h94 ⟨trivial, rfl⟩
      · intro a W hE hb hs
        have h94 : a.eval (.tmp 94) = undef := hs 6 (by decide)
        exact flowU rfl rfl h94 ⟨trivial, rfl⟩
      · intro a W hE hb hs
        have h94 : a.eval (.tmp 94) = undef := hs 6 (by decide)
        exact flowU rfl rfl h94 ⟨trivial, rfl⟩
      · intro a W hE hb hs
        have h94 : a.eval (.tmp 94) = undef := hs 6 (by decide)
        exact flowU rfl rfl h94 ⟨trivial, rfl⟩
      · intro a W hE hb hs
        have h90 : a.eval (.tmp 90) = .bool false := hs 2 (by decide)
        exact flowN rfl rfl h90 (by decide) ⟨trivial, rfl⟩
      · intro a W hE hb hs
        have h90 : a.eval (.tmp 90) = .bool false := hs 2 (by decide)
        refine flow0 rfl ?_
        exact val_pick _ _ _ rfl false h90 _ (by rw [if_neg (by decide)]; rfl) ⟨rfl, trivial⟩
    intro f W hb hT hp hd
    have e_ : f 102 = .bool false := hT 14 (by decide)
    simp only [putV, List.foldl_cons, List.foldl_nil, Act.put, List.setIfInBounds_toArray, List.set_cons_succ, List.set_cons_zero, Exit.then]
    rw [e_]
    obtain ⟨v16, rfl⟩ : ∃ q, q = W := ⟨_, rfl⟩
    have hb_ := hb
    clear hb hT hp hd e_
    replace HB := Lib.hid (HB.out.trans (hb_.mono HB.out.size))
    replace H15 := Lib.hid (H15.out.below hb_)
    replace Hp16 := Lib.hid (Hp16.out.below hb_)
    replace HBX16 := Lib.hid (HBX16.out.below hb_ HBX16.out.lt)
    clear hb_
    have Hk := Lib.hid (Blk.range HBX16.out)
    go_wp2_with (first | (refine wpList_load_mid_g (by first | rfl | simp [Region.wanted, yielded]) 39 (.tmp 16) rfl X16 0 rfl (pvC pv16) d39 Hk.out hd39 hrow39 (by rw [pvC_len]; kernel_rfl) ?_) | (refine wpList_buildN_g (by first | rfl | simp [Region.wanted, yielded]) 39 _ rfl [] rfl _ built39z ?_))
    refine (Same_any pv16 pv0 pk0 pk0 v16 (HTr.out ▸ Hp16.out) (pvOk0 _) okP0 okP0).mono ?_
    rintro e v17 ⟨rfl, hb_⟩
    replace HB := Lib.hid (HB.out.trans (hb_.mono HB.out.size))
    replace H15 := Lib.hid (H15.out.below hb_)
    replace Hp16 := Lib.hid (Hp16.out.below hb_)
    replace HBX16 := Lib.hid (HBX16.out.below hb_ HBX16.out.lt)
    clear hb_
    rw [decide_eq_true rfl]
    go_wp2_with fail
    go_ret
    exact ⟨rfl, HB.out⟩
  · skip
    have HTe := Lib.hid (show T.2 = 0 by rw [HT.out]; exact h2)
    have HTv := Lib.hid (show validP T.1 = true by rw [HT.out]; exact h3)
    have HTb := Lib.hid (show bytP T.1 = cs by rw [HT.out]; exact h4)
    have HTok := Lib.hid (okP_of HTv.out)
    clear h1 h2 h3 h4
    obtain ⟨r, hr⟩ : ∃ q, q = T.1 := ⟨_, rfl⟩
    skip
    rw [HTe.out]
    refine wp_region_flowF [88, 89, 90, 91, 92, 93, 94, 95, 96, 97, 98, 99, 100, 101, 102] [(Spec.is (.int .i64 0), false), (Spec.is (.bool true), false), (Spec.is (.bool true), false), (Spec.is (.agg (pvC pv16).toArray), false), (Spec.is (.bool true), false), (Spec.is (.bool false), false), (Spec.is (.bool false), false), (Spec.is (.agg (pvC pv16).toArray), false), (spBytes cs, false), (Spec.is (.string (str cs)), false), (Spec.is (.slice (some ⟨g, o, none⟩) L cN), false), (Spec.is (.string (str cs)), false), (Spec.is (.bool false), false), (Spec.is (.bool false), false), (Spec.is (.bool false), false)] 121 (by kernel_rfl) rfl (by decide) rfl (by decide) (by kernel_rfl) ?_ ?_
    · refine ⟨?_, ?_, ?_, ?_, ?_, ?_, ?_, ?_, ?_, ?_, ?_, ?_, ?_, ?_, ?_, trivial⟩
      · intro a W hE hb hs
        have h17 : a.eval (.tmp 17) = .int .i64 0 := hb 17 (by decide)
        refine flow0 rfl ?_
        exact val_move _ rfl _ h17 ⟨rfl, trivial⟩
      · intro a W hE hb hs
        have h88 : a.eval (.tmp 88) = .int .i64 0 := hs 0 (by decide)
        refine flow0 rfl ?_
        intro K hK
        unfold Oper.wp execOp
        simp only [h88, BigFrame.eval_const]
        simp [go_sem]
        exact hK _ _ ⟨Below.refl _ _, rfl, trivial⟩
      · intro a W hE hb hs
        have h89 : a.eval (.tmp 89) = .bool true := hs 1 (by decide)
        refine flow0 rfl ?_
        exact val_move _ rfl _ h89 ⟨rfl, trivial⟩
      · intro a W hE hb hs
        have h16 : a.eval (.tmp 16) = .pointer (some ⟨X16, 0, none⟩) := hb 16 (by decide)
        have h90 : a.eval (.tmp 90) = .bool true := hs 2 (by decide)
        refine flowY rfl rfl h90 ?_
        exact val_load_row 39 _ rfl X16 0 h16 (pvC pv16) d39 (Blk.range (HBX16.out.below (ext_below hE) HBX16.out.lt)) hd39 hrow39 (by rw [pvC_len]; kernel_rfl) ⟨rfl, trivial⟩
      · intro a W hE hb hs
        have h91 : a.eval (.tmp 91) = .agg (pvC pv16).toArray := hs 3 (by decide)
        have h90 : a.eval (.tmp 90) = .bool true := hs 2 (by decide)
        refine flowY rfl rfl h90 ?_
        exact val_call 28 _ _ rfl (by kernel_rfl) [.agg (pvC pv16).toArray] (by show [a.eval (.tmp 91)] = _; rw [h91]) ((Valid_any pv16 T.1 W (Hp16.out.below (ext_below hE))).mono (by rintro e W' ⟨rfl, hb⟩; rw [HTv.out]; exact ⟨_, rfl, hb, rfl, trivial⟩))
      · intro a W hE hb hs
        have h92 : a.eval (.tmp 92) = .bool true := hs 4 (by decide)
        have h90 : a.eval (.tmp 90) = .bool true := hs 2 (by decide)
        refine flowY rfl rfl h90 ?_
        exact val_not _ _ rfl _ h92 ⟨rfl, trivial⟩
      · intro a W hE hb hs
        have h93 : a.eval (.tmp 93) = .bool false := hs 5 (by decide)
        have h90 : a.eval (.tmp 90) = .bool true := hs 2 (by decide)
        refine flowY rfl rfl h90 ?_
        exact val_move _ rfl _ h93 ⟨rfl, trivial⟩
      · intro a W hE hb hs
        have h16 : a.eval (.tmp 16) = .pointer (some ⟨X16, 0, none⟩) := hb 16 (by decide)
        have h94 : a.eval (.tmp 94) = .bool false := hs 6 (by decide)
        refine flowY rfl rfl h94 ?_
        exact val_load_row 39 _ rfl X16 0 h16 (pvC pv16) d39 (Blk.range (HBX16.out.below (ext_below hE) HBX16.out.lt)) hd39 hrow39 (by rw [pvC_len]; kernel_rfl) ⟨rfl, trivial⟩
      · intro a W hE hb hs
        have h95 : a.eval (.tmp 95) = .agg (pvC pv16).toArray := hs 7 (by decide)
        have h94 : a.eval (.tmp 94) = .bool false := hs 6 (by decide)
        refine flowY rfl rfl h94 ?_
        exact val_call 26 _ _ rfl (by kernel_rfl) [.agg (pvC pv16).toArray] (by show [a.eval (.tmp 95)] = _; rw [h95]) ((NBytesL_any pv16 T.1 cs W (Hp16.out.below (ext_below hE)) HTv.out HTb.out).mono (by rintro e W' ⟨⟨A', c', rfl, hc', hr'⟩, hb'⟩; exact ⟨_, rfl, hb', ⟨A', _, c', rfl, hr'⟩, trivial⟩))
      · intro a W hE hb hs
        have h96 : ∃ (A : Option Addr) (n c : Nat), (a.eval (.tmp 96)) = .slice A n c ∧ Rd W 1 A n (cs.map byteV) := hs 8 (by decide)
        have h94 : a.eval (.tmp 94) = .bool false := hs 6 (by decide)
        refine flowY rfl rfl h94 ?_
        obtain ⟨A', n', c', e_, hr_⟩ := h96
        have hcv := convert_bytes A' n' c' cs W hr_
        intro K hK
        unfold Oper.wp execOp
        simp only [e_]
        simp [go_sem, hcv]
        exact hK _ _ ⟨Below.refl _ _, rfl, trivial⟩
      · intro a W hE hb hs
        have h15 : a.eval (.tmp 15) = .slice (some ⟨g, o, none⟩) L cN := hb 15 (by decide)
        have h94 : a.eval (.tmp 94) = .bool false := hs 6 (by decide)
        refine flowY rfl rfl h94 ?_
        exact val_move _ rfl _ h15 ⟨rfl, trivial⟩
      · intro a W hE hb hs
        have h98 : a.eval (.tmp 98) = .slice (some ⟨g, o, none⟩) L cN := hs 10 (by decide)
        have h94 : a.eval (.tmp 94) = .bool false := hs 6 (by decide)
        refine flowY rfl rfl h94 ?_
        have hcv := convert_bytes (some ⟨g, o, none⟩) L cN cs W (H15.out.below (ext_below hE))
        intro K hK
        unfold Oper.wp execOp
        simp only [h98]
        simp [go_sem, hcv]
        exact hK _ _ ⟨Below.refl _ _, rfl, trivial⟩
      · intro a W hE hb hs
        have h97 : a.eval (.tmp 97) = .string (str cs) := hs 9 (by decide)
        have h99 : a.eval (.tmp 99) = .string (str cs) := hs 11 (by decide)
        have h94 : a.eval (.tmp 94) = .bool false := hs 6 (by decide)
        refine flowY rfl rfl h94 ?_
        intro K hK
        unfold Oper.wp execOp
        simp only [h97, h99]
        simp [go_sem]
        exact hK _ _ ⟨Below.refl _ _, rfl, trivial⟩
      · intro a W hE hb hs
        have h94 : a.eval (.tmp 94) = .bool false := hs 6 (by decide)
        have h100 : a.eval (.tmp 100) = .bool false := hs 12 (by decide)
        have h90 : a.eval (.tmp 90) = .bool true := hs 2 (by decide)
        refine flowY rfl rfl h90 ?_
        exact val_pick _ _ _ rfl false h94 _ (by rw [if_neg (by decide)]; exact h100) ⟨rfl, trivial⟩
      · intro a W hE hb hs
        have h90 : a.eval (.tmp 90) = .bool true := hs 2 (by decide)
        have h101 : a.eval (.tmp 101) = .bool false := hs 13 (by decide)
        refine flow0 rfl ?_
        exact val_pick _ _ _ rfl true h90 _ (by rw [if_pos rfl]; exact h101) ⟨rfl, trivial⟩
    intro f W hb hT hp hd
    have e_ : f 102 = .bool false := hT 14 (by decide)
    simp only [putV, List.foldl_cons, List.foldl_nil, Act.put, List.setIfInBounds_toArray, List.set_cons_succ, List.set_cons_zero, Exit.then]
    rw [e_]
    obtain ⟨v16, rfl⟩ : ∃ q, q = W := ⟨_, rfl⟩
    have hb_ := hb
    clear hb hT hp hd e_
    replace HB := Lib.hid (HB.out.trans (hb_.mono HB.out.size))
    replace H15 := Lib.hid (H15.out.below hb_)
    replace Hp16 := Lib.hid (Hp16.out.below hb_)
    replace HBX16 := Lib.hid (HBX16.out.below hb_ HBX16.out.lt)
    clear hb_
    go_wp2_with fail
    go_ret
    exact ⟨rfl, HB.out⟩
end Go.Proofs.Yteofgkdpknaapaa
