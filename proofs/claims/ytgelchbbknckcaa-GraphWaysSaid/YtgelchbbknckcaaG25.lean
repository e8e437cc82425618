/- The reference's Follow, along a way. -/
import Derived.Test.YtgelchbbknckcaaG24
namespace Go.Proofs.Ytgelchbbknckcaa
open Go.RowKit Go.Sort

set_option maxRecDepth 100000 in
set_option maxHeartbeats 4000000 in
theorem Follow_any (A : Option Addr) (n c : Nat) (B : Option Addr) (M gd : Nat) (vs : List Int) (ls : List Ln) (fr tv : Int) (lim : Nd) (A1 : Option Addr) (c1 : Nat) (L : List Nat) (s t cw : Nat) (w : World) (hl : Rd w 8 B M (ls.flatMap lnV)) (hL : Rd w 1 A1 L.length ((castL L).map intV)) (hv : Vg vs ls) (hs : vs[s]? = some fr) (ht : vs[t]? = some tv) (hw : Gr.Walk (lksN vs lim ls) s t (cw, L)) (hLn : L.length ≤ 16) :
    Calls Try.prog 24 #[.agg (grV A n c B M gd).toArray, .agg (asV fr tv lim).toArray, .slice A1 L.length c1] w fun e w' => e = .returned (.tuple #[.int .i64 (cw : Int), .bool true]) ∧ Below w.heap.size w w' := by
  obtain ⟨d28, hd28, hrow28⟩ := und28
  have hll := hl.lenf lnV_len (by omega)
  have hm64 : M ≤ 64 := by have := hv.m; omega
  have Hl := Lib.hid hl
  have HL := Lib.hid hL
  have Hv := Lib.hid hv
  have Hs := Lib.hid hs
  have Ht := Lib.hid ht
  have Hw := Lib.hid hw
  have Hll := Lib.hid hll
  clear hl hL hv hs ht hw hll
  go_enter Try.func24, Try.ntmps24
  go_upto_region 1 with fail
  try simp only [World.size_alloc]
  obtain ⟨v1, hv1⟩ : ∃ v, v = (w.alloc (.cells (grV A n c B M gd).toArray 33)).alloc (.cells (asV fr tv lim).toArray 40) := ⟨_, rfl⟩
  have HB := Lib.hid (show Below w.heap.size w v1 by rw [hv1]; exact ((Below.refl _ _).alloc (Nat.le_refl _) _).alloc (by simp) _)
  have HC := Lib.hid (show Blk v1 w.heap.size 33 (grV A n c B M gd).toArray by rw [hv1]; exact (Blk.new _ _ _).alloc _)
  have HD := Lib.hid (show Blk v1 (w.heap.size + 1) 40 (asV fr tv lim).toArray by
    have := Blk.new (w.alloc (.cells (grV A n c B M gd).toArray 33)) 40 (asV fr tv lim).toArray
    rw [World.size_alloc] at this
    rw [hv1]; exact this)
  rw [← hv1]
  clear hv1
  replace Hl := Lib.hid (Hl.out.below HB.out)
  replace HL := Lib.hid (HL.out.below HB.out)
  have c0 : v1.cell? ⟨w.heap.size + 1, 0, none⟩ = some (.int .i64 fr) := by rw [HD.out.cell]; rfl
  go_wp2_with fail
  clear c0
  go_loopw [8, 9, 10] (fun v8 v9 v10 wr => ∃ (i t' c' : Nat) (at9 : Int), v10 = .int .i64 (i : Int) ∧ i ≤ L.length ∧ v8 = .int .i64 at9 ∧ v9 = .int .i64 (c' : Int) ∧ vs[t']? = some at9 ∧ Gr.Walk (lksN vs lim ls) s t' (c', L.take i) ∧ Below v1.heap.size v1 wr) (fun _ _ v10 _ => L.length - (intOf v10).toNat)
  case atStart => exact ⟨0, s, 0, fr, rfl, by omega, rfl, rfl, Hs.out, .nil, Below.refl _ _⟩
  case round =>
    obtain ⟨i, t', c', at9, rfl, hiL, rfl, rfl, hat, hwk, hBr⟩ := hrel
    have HBr := Lib.hid hBr
    have Hat := Lib.hid hat
    have Hwk := Lib.hid hwk
    have hbx := hBr
    clear hBr hat hwk
    by_cases li : i < L.length
    · have dd : decide ((i : Int) < (L.length : Int)) = true := decide_eq_true (by omega)
      go_upto_region 5 with fail
      clear dd
      replace HC := Lib.hid (HC.out.below hbx HC.out.lt)
      replace HD := Lib.hid (HD.out.below hbx HD.out.lt)
      replace Hl := Lib.hid (Hl.out.below hbx)
      replace HL := Lib.hid (HL.out.below hbx)
      replace HB := Lib.hid (HB.out.trans (hbx.mono HB.out.size))
      clear hbx
      obtain ⟨q, hq⟩ : ∃ q, q = L[i] := ⟨_, rfl⟩
      have hq2 : L[i]? = some q := by rw [hq]; exact List.getElem?_eq_getElem li
      obtain ⟨u9, t2, c2, d2, hw1, hlk, hc2⟩ : ∃ (u9 t2 c2 d2 : Nat), Gr.Walk (lksN vs lim ls) s t2 (c2, L.take (i + 1)) ∧ (lksN vs lim ls)[q]? = some (u9, t2, d2, true) ∧ (u9 = t' ∧ c2 = c' + d2) := by
        obtain ⟨t2, c2, _, h1, _, _⟩ := Hw.out.split (i + 1) (by show i + 1 ≤ L.length; omega)
        have h2 : Gr.Walk (lksN vs lim ls) s t2 (c2, L.take i ++ [q]) := by
          have h3 : L.take (i + 1) = L.take i ++ [q] := by rw [List.take_add_one, hq2]; rfl
          rw [← h3]; exact h1
        obtain ⟨u9, c9, d2, h3, h4, h5⟩ := Gr.Walk.last2 h2
        obtain ⟨rfl, rfl⟩ := Hwk.out.det2 h3
        exact ⟨u9, t2, c2, d2, h1, h4, rfl, h5⟩
      obtain ⟨rfl, hc2⟩ := hc2
      obtain ⟨l, hl, hfv, htv, hlc, hd2, hfit9, _, _⟩ := Hv.out.lk hlk
      replace hfit9 := hfit9.symm
      have hfa : l.f = at9 := Option.some.inj (hfv.symm.trans Hat.out)
      subst hfa
      have lq : q < M := by have := (List.getElem?_eq_some_iff.1 hl).1; rw [Hll.out] at this; exact this
      obtain ⟨b1, o1, y, ea, hy, cy0⟩ := HL.out.at_ li
      subst ea
      have hyq : y = (q : Int) := by
        unfold castL at hy
        rw [List.getElem?_map, hq2] at hy
        simpa using hy.symm
      subst hyq
      have cy : wr.cell? ⟨b1, o1 + i, none⟩ = some (.int .i64 (q : Int)) := cy0
      obtain ⟨lb, lo, l', ea, hl', hcl⟩ := Hl.out.flat_ lnV_len (by omega) lq
      subst ea
      rw [hl] at hl'
      obtain rfl := Option.some.inj hl'
      have cl0 : wr.cell? ⟨lb, lo + q * 8, none⟩ = some (.int .i64 l.f) := hcl 0 (.int .i64 l.f) rfl
      have cl1 : wr.cell? ⟨lb, lo + q * 8 + 1, none⟩ = some (.int .i64 l.t) := by have := hcl 1 (.int .i64 l.t) rfl; rwa [← Nat.add_assoc] at this
      have cl2 : wr.cell? ⟨lb, lo + q * 8 + 2, none⟩ = some (.int .i64 l.c) := by have := hcl 2 (.int .i64 l.c) rfl; rwa [← Nat.add_assoc] at this
      have hcn : ∀ (j : Nat) (v : Value), (ndV l.n)[j]? = some v → wr.cell? ⟨lb, lo + q * 8 + 3 + j, none⟩ = some v := fun j v hv => by
        have := hcl (3 + j) v (by unfold lnV; rw [List.getElem?_append_right (by simp)]; simpa using hv)
        rwa [← Nat.add_assoc, ← Nat.add_assoc] at this
      have Hcn := Lib.hid hcn
      have g1 : wr.cell? ⟨w.heap.size, 1, none⟩ = some (.slice (some ⟨lb, lo, none⟩) M gd) := by rw [HC.out.cell]; rfl
      obtain ⟨M1, hM1⟩ : ∃ M1, M = M1 + 1 := ⟨M - 1, by omega⟩
      have hsub9 : IntKind.i64.wrap ((M : Int) - 1) = (M1 : Int) := (IntWalk.i64_left _).trans (show wrap64 ((M : Int) - 1) = (M1 : Int) by unfold wrap64; omega)
      have hin9 : 0 ≤ (q : Int) ∧ (q : Int) ≤ (M1 : Int) := ⟨by omega, by omega⟩
      have hcc : c' ≤ 16000000 := by
        have := Hwk.out.cost (K := 1000000) (fun k u t d b hk => by obtain ⟨_, _, _, _, _, h, _⟩ := Hv.out.lk hk; exact h)
        have h2 : (L.take i).length * 1000000 ≤ 16 * 1000000 := Nat.mul_le_mul_right _ (by rw [List.length_take]; omega)
        exact Nat.le_trans this h2
      have Hw1 := Lib.hid hw1
      have Htv := Lib.hid htv
      have Hc2 := Lib.hid hc2
      have Hlc := Lib.hid hlc
      have hlc2 : 0 ≤ l.c ∧ l.c ≤ 1000000 := by omega
      have Hsub := Lib.hid hsub9
      clear hq hq2 hw1 hlk hl hfv htv hlc hd2 hy cy0 hcl hcn hc2 hM1 hsub9
      go_cut [56] from 19 to 56 (fun t56 wx => t56 = .bool false ∧ Below wr.heap.size wr wx)
      case first =>
        have hsub9 := Hsub.out
        refine wp_region_flowF [19, 20, 21, 22, 23, 24, 25, 26, 27, 28, 29, 30, 31, 32, 33, 34, 35, 36, 37, 38, 39, 40, 41, 42, 43, 44, 45, 46, 47, 48, 49, 50, 51, 52, 53, 54, 55, 56] [(Spec.is (.slice (some ⟨b1, o1, none⟩) L.length c1), false), (Spec.is (.int .i64 (i : Int)), false), (Spec.is (.pointer (some ⟨b1, o1 + i, none⟩)), false), (Spec.is (.int .i64 (q : Int)), false), (Spec.is (.pointer (some ⟨w.heap.size, 1, none⟩)), false), (Spec.is (.slice (some ⟨lb, lo, none⟩) M gd), false), (Spec.is (.int .i64 (M : Int)), false), (Spec.is (.int .i64 (M1 : Int)), false), (Spec.is (.bool true), false), (Spec.is (.bool false), false), (Spec.is (.bool false), false), (Spec.is (.pointer (some ⟨w.heap.size, 1, none⟩)), false), (Spec.is (.slice (some ⟨lb, lo, none⟩) M gd), false), (Spec.is (.slice (some ⟨b1, o1, none⟩) L.length c1), false), (Spec.is (.int .i64 (i : Int)), false), (Spec.is (.pointer (some ⟨b1, o1 + i, none⟩)), false), (Spec.is (.int .i64 (q : Int)), false), (Spec.is (.pointer (some ⟨lb, lo + q * 8, none⟩)), false), (Spec.is (.pointer (some ⟨lb, lo + q * 8, none⟩)), false), (Spec.is (.int .i64 l.f), false), (Spec.is (.int .i64 l.f), false), (Spec.is (.bool false), false), (Spec.is (.bool false), false), (Spec.is (.bool false), false), (Spec.is (.pointer (some ⟨w.heap.size, 1, none⟩)), false), (Spec.is (.slice (some ⟨lb, lo, none⟩) M gd), false), (Spec.is (.slice (some ⟨b1, o1, none⟩) L.length c1), false), (Spec.is (.int .i64 (i : Int)), false), (Spec.is (.pointer (some ⟨b1, o1 + i, none⟩)), false), (Spec.is (.int .i64 (q : Int)), false), (Spec.is (.pointer (some ⟨lb, lo + q * 8, none⟩)), false), (Spec.is (.pointer (some ⟨lb, lo + q * 8 + 3, none⟩)), false), (Spec.is (.agg (ndV l.n).toArray), false), (Spec.is (.pointer (some ⟨w.heap.size + 1, 2, none⟩)), false), (Spec.is (.agg (ndV lim).toArray), false), (Spec.is (.bool true), false), (Spec.is (.bool false), false), (Spec.is (.bool false), false)] 82 (by kernel_rfl) rfl (by decide) rfl (by decide) (by kernel_rfl) ?_ ?_
        · refine ⟨?_, ?_, ?_, ?_, ?_, ?_, ?_, ?_, ?_, ?_, ?_, ?_, ?_, ?_, ?_, ?_, ?_, ?_, ?_, ?_, ?_, ?_, ?_, ?_, ?_, ?_, ?_, ?_, ?_, ?_, ?_, ?_, ?_, ?_, ?_, ?_, ?_, ?_, trivial⟩
          · intro a W hE hb hs
            have h2 : a.eval (.tmp 2) = .slice (some ⟨b1, o1, none⟩) L.length c1 := hb 2 (by decide)
            refine flow0 rfl ?_
            exact val_move _ rfl _ h2 ⟨rfl, trivial⟩
          · intro a W hE hb hs
            have h10 : a.eval (.tmp 10) = .int .i64 (i : Int) := hb 10 (by decide)
            refine flow0 rfl ?_
            exact val_move _ rfl _ h10 ⟨rfl, trivial⟩
          · intro a W hE hb hs
            have h19 : a.eval (.tmp 19) = .slice (some ⟨b1, o1, none⟩) L.length c1 := hs 0 (by decide)
            have h20 : a.eval (.tmp 20) = .int .i64 (i : Int) := hs 1 (by decide)
            refine flow0 rfl ?_
            intro K hK
            unfold Oper.wp execOp
            simp only [h19, h20]
            simp [go_sem, li]
            exact hK _ _ ⟨Below.refl _ _, rfl, trivial⟩
          · intro a W hE hb hs
            have h21 : a.eval (.tmp 21) = .pointer (some ⟨b1, o1 + i, none⟩) := hs 2 (by decide)
            refine flow0 rfl ?_
            have c0 : W.cell? ⟨b1, o1 + i, none⟩ = some (.int .i64 (q : Int)) := ((ext_below hE).cell (World.block_lt_of_cell? _ _ cy)).trans cy
            intro K hK
            unfold Oper.wp execOp
            simp only [h21]
            simp [go_sem, c0]
            exact hK _ _ ⟨Below.refl _ _, rfl, trivial⟩
          · intro a W hE hb hs
            have h3 : a.eval (.tmp 3) = .pointer (some ⟨w.heap.size, 0, none⟩) := hb 3 (by decide)
            refine flow0 rfl ?_
            intro K hK
            unfold Oper.wp execOp
            simp only [h3]
            simp [go_sem]
            exact hK _ _ ⟨Below.refl _ _, rfl, trivial⟩
          · intro a W hE hb hs
            have h23 : a.eval (.tmp 23) = .pointer (some ⟨w.heap.size, 1, none⟩) := hs 4 (by decide)
            refine flow0 rfl ?_
            have c0 : W.cell? ⟨w.heap.size, 1, none⟩ = some (.slice (some ⟨lb, lo, none⟩) M gd) := by rw [(HC.out.below (ext_below hE) HC.out.lt).cell]; rfl
            intro K hK
            unfold Oper.wp execOp
            simp only [h23]
            simp [go_sem, c0]
            exact hK _ _ ⟨Below.refl _ _, rfl, trivial⟩
          · intro a W hE hb hs
            have h24 : a.eval (.tmp 24) = .slice (some ⟨lb, lo, none⟩) M gd := hs 5 (by decide)
            refine flow0 rfl ?_
            exact val_len _ _ _ rfl Try.underlying31 _ _ _ h24 ⟨rfl, trivial⟩
          · intro a W hE hb hs
            have h25 : a.eval (.tmp 25) = .int .i64 (M : Int) := hs 6 (by decide)
            refine flow0 rfl ?_
            intro K hK
            unfold Oper.wp execOp
            simp only [h25, BigFrame.eval_const]
            simp [go_sem, hsub9]
            exact hK _ _ ⟨Below.refl _ _, rfl, trivial⟩
          · intro a W hE hb hs
            have h22 : a.eval (.tmp 22) = .int .i64 (q : Int) := hs 3 (by decide)
            have h26 : a.eval (.tmp 26) = .int .i64 (M1 : Int) := hs 7 (by decide)
            refine flow0 rfl ?_
            exact val_call 26 _ _ rfl (by kernel_rfl) [.int .i64 (q : Int), .int .i64 0, .int .i64 (M1 : Int)] (by show [a.eval (.tmp 22), a.eval (.const (.int .i64 0)), a.eval (.tmp 26)] = _; rw [h22, h26]; rfl) ((In_any (q : Int) 0 (M1 : Int) W).mono (by rintro e W' ⟨rfl, hw⟩; subst hw; exact ⟨_, rfl, Below.refl _ _, congrArg Value.bool (decide_eq_true hin9), trivial⟩))
          · intro a W hE hb hs
            have h27 : a.eval (.tmp 27) = .bool true := hs 8 (by decide)
            refine flow0 rfl ?_
            exact val_not _ _ rfl _ h27 ⟨rfl, trivial⟩
          · intro a W hE hb hs
            have h28 : a.eval (.tmp 28) = .bool false := hs 9 (by decide)
            refine flow0 rfl ?_
            exact val_move _ rfl _ h28 ⟨rfl, trivial⟩
          · intro a W hE hb hs
            have h29 : a.eval (.tmp 29) = .bool false := hs 10 (by decide)
            have h3 : a.eval (.tmp 3) = .pointer (some ⟨w.heap.size, 0, none⟩) := hb 3 (by decide)
            refine flowY rfl rfl h29 ?_
            intro K hK
            unfold Oper.wp execOp
            simp only [h3]
            simp [go_sem]
            exact hK _ _ ⟨Below.refl _ _, rfl, trivial⟩
          · intro a W hE hb hs
            have h29 : a.eval (.tmp 29) = .bool false := hs 10 (by decide)
            have h30 : a.eval (.tmp 30) = .pointer (some ⟨w.heap.size, 1, none⟩) := hs 11 (by decide)
            refine flowY rfl rfl h29 ?_
            have c0 : W.cell? ⟨w.heap.size, 1, none⟩ = some (.slice (some ⟨lb, lo, none⟩) M gd) := by rw [(HC.out.below (ext_below hE) HC.out.lt).cell]; rfl
            intro K hK
            unfold Oper.wp execOp
            simp only [h30]
            simp [go_sem, c0]
            exact hK _ _ ⟨Below.refl _ _, rfl, trivial⟩
          · intro a W hE hb hs
            have h29 : a.eval (.tmp 29) = .bool false := hs 10 (by decide)
            have h2 : a.eval (.tmp 2) = .slice (some ⟨b1, o1, none⟩) L.length c1 := hb 2 (by decide)
            refine flowY rfl rfl h29 ?_
            exact val_move _ rfl _ h2 ⟨rfl, trivial⟩
          · intro a W hE hb hs
            have h29 : a.eval (.tmp 29) = .bool false := hs 10 (by decide)
            have h10 : a.eval (.tmp 10) = .int .i64 (i : Int) := hb 10 (by decide)
            refine flowY rfl rfl h29 ?_
            exact val_move _ rfl _ h10 ⟨rfl, trivial⟩
          · intro a W hE hb hs
            have h29 : a.eval (.tmp 29) = .bool false := hs 10 (by decide)
            have h32 : a.eval (.tmp 32) = .slice (some ⟨b1, o1, none⟩) L.length c1 := hs 13 (by decide)
            have h33 : a.eval (.tmp 33) = .int .i64 (i : Int) := hs 14 (by decide)
            refine flowY rfl rfl h29 ?_
            intro K hK
            unfold Oper.wp execOp
            simp only [h32, h33]
            simp [go_sem, li]
            exact hK _ _ ⟨Below.refl _ _, rfl, trivial⟩
          · intro a W hE hb hs
            have h29 : a.eval (.tmp 29) = .bool false := hs 10 (by decide)
            have h34 : a.eval (.tmp 34) = .pointer (some ⟨b1, o1 + i, none⟩) := hs 15 (by decide)
            refine flowY rfl rfl h29 ?_
            have c0 : W.cell? ⟨b1, o1 + i, none⟩ = some (.int .i64 (q : Int)) := ((ext_below hE).cell (World.block_lt_of_cell? _ _ cy)).trans cy
            intro K hK
            unfold Oper.wp execOp
            simp only [h34]
            simp [go_sem, c0]
            exact hK _ _ ⟨Below.refl _ _, rfl, trivial⟩
          · intro a W hE hb hs
            have h29 : a.eval (.tmp 29) = .bool false := hs 10 (by decide)
            have h31 : a.eval (.tmp 31) = .slice (some ⟨lb, lo, none⟩) M gd := hs 12 (by decide)
            have h35 : a.eval (.tmp 35) = .int .i64 (q : Int) := hs 16 (by decide)
            refine flowY rfl rfl h29 ?_
            intro K hK
            unfold Oper.wp execOp
            simp only [h31, h35]
            simp [go_sem, lq]
            exact hK _ _ ⟨Below.refl _ _, rfl, trivial⟩
          · intro a W hE hb hs
            have h29 : a.eval (.tmp 29) = .bool false := hs 10 (by decide)
            have h36 : a.eval (.tmp 36) = .pointer (some ⟨lb, lo + q * 8, none⟩) := hs 17 (by decide)
            refine flowY rfl rfl h29 ?_
            intro K hK
            unfold Oper.wp execOp
            simp only [h36]
            simp [go_sem]
            exact hK _ _ ⟨Below.refl _ _, rfl, trivial⟩
          · intro a W hE hb hs
            have h29 : a.eval (.tmp 29) = .bool false := hs 10 (by decide)
            have h37 : a.eval (.tmp 37) = .pointer (some ⟨lb, lo + q * 8, none⟩) := hs 18 (by decide)
            refine flowY rfl rfl h29 ?_
            have c0 : W.cell? ⟨lb, lo + q * 8, none⟩ = some (.int .i64 l.f) := ((ext_below hE).cell (World.block_lt_of_cell? _ _ cl0)).trans cl0
            intro K hK
            unfold Oper.wp execOp
            simp only [h37]
            simp [go_sem, c0]
            exact hK _ _ ⟨Below.refl _ _, rfl, trivial⟩
          · intro a W hE hb hs
            have h29 : a.eval (.tmp 29) = .bool false := hs 10 (by decide)
            have h8 : a.eval (.tmp 8) = .int .i64 l.f := hb 8 (by decide)
            refine flowY rfl rfl h29 ?_
            exact val_move _ rfl _ h8 ⟨rfl, trivial⟩
          · intro a W hE hb hs
            have h29 : a.eval (.tmp 29) = .bool false := hs 10 (by decide)
            have h38 : a.eval (.tmp 38) = .int .i64 l.f := hs 19 (by decide)
            have h39 : a.eval (.tmp 39) = .int .i64 l.f := hs 20 (by decide)
            refine flowY rfl rfl h29 ?_
            intro K hK
            unfold Oper.wp execOp
            simp only [h38, h39]
            simp [go_sem]
            exact hK _ _ ⟨Below.refl _ _, rfl, trivial⟩
          · intro a W hE hb hs
            have h29 : a.eval (.tmp 29) = .bool false := hs 10 (by decide)
            have h40 : a.eval (.tmp 40) = .bool false := hs 21 (by decide)
            refine flow0 rfl ?_
            exact val_pick _ _ _ rfl false h29 _ (by rw [if_neg (by decide)]; exact h40) ⟨rfl, trivial⟩
          · intro a W hE hb hs
            have h41 : a.eval (.tmp 41) = .bool false := hs 22 (by decide)
            refine flow0 rfl ?_
            exact val_move _ rfl _ h41 ⟨rfl, trivial⟩
          · intro a W hE hb hs
            have h42 : a.eval (.tmp 42) = .bool false := hs 23 (by decide)
            have h3 : a.eval (.tmp 3) = .pointer (some ⟨w.heap.size, 0, none⟩) := hb 3 (by decide)
            refine flowY rfl rfl h42 ?_
            intro K hK
            unfold Oper.wp execOp
            simp only [h3]
            simp [go_sem]
            exact hK _ _ ⟨Below.refl _ _, rfl, trivial⟩
          · intro a W hE hb hs
            have h42 : a.eval (.tmp 42) = .bool false := hs 23 (by decide)
            have h43 : a.eval (.tmp 43) = .pointer (some ⟨w.heap.size, 1, none⟩) := hs 24 (by decide)
            refine flowY rfl rfl h42 ?_
            have c0 : W.cell? ⟨w.heap.size, 1, none⟩ = some (.slice (some ⟨lb, lo, none⟩) M gd) := by rw [(HC.out.below (ext_below hE) HC.out.lt).cell]; rfl
            intro K hK
            unfold Oper.wp execOp
            simp only [h43]
            simp [go_sem, c0]
            exact hK _ _ ⟨Below.refl _ _, rfl, trivial⟩
          · intro a W hE hb hs
            have h42 : a.eval (.tmp 42) = .bool false := hs 23 (by decide)
            have h2 : a.eval (.tmp 2) = .slice (some ⟨b1, o1, none⟩) L.length c1 := hb 2 (by decide)
            refine flowY rfl rfl h42 ?_
            exact val_move _ rfl _ h2 ⟨rfl, trivial⟩
          · intro a W hE hb hs
            have h42 : a.eval (.tmp 42) = .bool false := hs 23 (by decide)
            have h10 : a.eval (.tmp 10) = .int .i64 (i : Int) := hb 10 (by decide)
            refine flowY rfl rfl h42 ?_
            exact val_move _ rfl _ h10 ⟨rfl, trivial⟩
          · intro a W hE hb hs
            have h42 : a.eval (.tmp 42) = .bool false := hs 23 (by decide)
            have h45 : a.eval (.tmp 45) = .slice (some ⟨b1, o1, none⟩) L.length c1 := hs 26 (by decide)
            have h46 : a.eval (.tmp 46) = .int .i64 (i : Int) := hs 27 (by decide)
            refine flowY rfl rfl h42 ?_
            intro K hK
            unfold Oper.wp execOp
            simp only [h45, h46]
            simp [go_sem, li]
            exact hK _ _ ⟨Below.refl _ _, rfl, trivial⟩
          · intro a W hE hb hs
            have h42 : a.eval (.tmp 42) = .bool false := hs 23 (by decide)
            have h47 : a.eval (.tmp 47) = .pointer (some ⟨b1, o1 + i, none⟩) := hs 28 (by decide)
            refine flowY rfl rfl h42 ?_
            have c0 : W.cell? ⟨b1, o1 + i, none⟩ = some (.int .i64 (q : Int)) := ((ext_below hE).cell (World.block_lt_of_cell? _ _ cy)).trans cy
            intro K hK
            unfold Oper.wp execOp
            simp only [h47]
            simp [go_sem, c0]
            exact hK _ _ ⟨Below.refl _ _, rfl, trivial⟩
          · intro a W hE hb hs
            have h42 : a.eval (.tmp 42) = .bool false := hs 23 (by decide)
            have h44 : a.eval (.tmp 44) = .slice (some ⟨lb, lo, none⟩) M gd := hs 25 (by decide)
            have h48 : a.eval (.tmp 48) = .int .i64 (q : Int) := hs 29 (by decide)
            refine flowY rfl rfl h42 ?_
            intro K hK
            unfold Oper.wp execOp
            simp only [h44, h48]
            simp [go_sem, lq]
            exact hK _ _ ⟨Below.refl _ _, rfl, trivial⟩
          · intro a W hE hb hs
            have h42 : a.eval (.tmp 42) = .bool false := hs 23 (by decide)
            have h49 : a.eval (.tmp 49) = .pointer (some ⟨lb, lo + q * 8, none⟩) := hs 30 (by decide)
            refine flowY rfl rfl h42 ?_
            intro K hK
            unfold Oper.wp execOp
            simp only [h49]
            simp [go_sem]
            exact hK _ _ ⟨Below.refl _ _, rfl, trivial⟩
          · intro a W hE hb hs
            have h42 : a.eval (.tmp 42) = .bool false := hs 23 (by decide)
            have h50 : a.eval (.tmp 50) = .pointer (some ⟨lb, lo + q * 8 + 3, none⟩) := hs 31 (by decide)
            refine flowY rfl rfl h42 ?_
            exact val_load_row 28 _ rfl lb (lo + q * 8 + 3) h50 (ndV l.n) d28 (fun j v hv => ((ext_below hE).cell (World.block_lt_of_cell? _ _ (Hcn.out j v hv))).trans (Hcn.out j v hv)) hd28 hrow28 (by rw [ndV_len]; kernel_rfl) ⟨rfl, trivial⟩
          · intro a W hE hb hs
            have h42 : a.eval (.tmp 42) = .bool false := hs 23 (by decide)
            have h4 : a.eval (.tmp 4) = .pointer (some ⟨w.heap.size + 1, 0, none⟩) := hb 4 (by decide)
            refine flowY rfl rfl h42 ?_
            intro K hK
            unfold Oper.wp execOp
            simp only [h4]
            simp [go_sem]
            exact hK _ _ ⟨Below.refl _ _, rfl, trivial⟩
          · intro a W hE hb hs
            have h42 : a.eval (.tmp 42) = .bool false := hs 23 (by decide)
            have h52 : a.eval (.tmp 52) = .pointer (some ⟨w.heap.size + 1, 2, none⟩) := hs 33 (by decide)
            refine flowY rfl rfl h42 ?_
            exact val_load_row 28 _ rfl (w.heap.size + 1) 2 h52 (ndV lim) d28 (fun j v hv => by rw [(HD.out.below (ext_below hE) HD.out.lt).cell, List.getElem?_toArray]; unfold asV; rw [List.getElem?_append_right (by simp)]; simpa using hv) hd28 hrow28 (by rw [ndV_len]; kernel_rfl) ⟨rfl, trivial⟩
          · intro a W hE hb hs
            have h42 : a.eval (.tmp 42) = .bool false := hs 23 (by decide)
            have h51 : a.eval (.tmp 51) = .agg (ndV l.n).toArray := hs 32 (by decide)
            have h53 : a.eval (.tmp 53) = .agg (ndV lim).toArray := hs 34 (by decide)
            refine flowY rfl rfl h42 ?_
            exact val_call 21 _ _ rfl (by kernel_rfl) [.agg (ndV l.n).toArray, .agg (ndV lim).toArray] (by show [a.eval (.tmp 51), a.eval (.tmp 53)] = _; rw [h51, h53]) ((RFits_any l.n lim W).mono (by rintro e W' ⟨rfl, hb⟩; exact ⟨_, rfl, hb, congrArg Value.bool hfit9, trivial⟩))
          · intro a W hE hb hs
            have h42 : a.eval (.tmp 42) = .bool false := hs 23 (by decide)
            have h54 : a.eval (.tmp 54) = .bool true := hs 35 (by decide)
            refine flowY rfl rfl h42 ?_
            exact val_not _ _ rfl _ h54 ⟨rfl, trivial⟩
          · intro a W hE hb hs
            have h42 : a.eval (.tmp 42) = .bool false := hs 23 (by decide)
            have h55 : a.eval (.tmp 55) = .bool false := hs 36 (by decide)
            refine flow0 rfl ?_
            exact val_pick _ _ _ rfl false h42 _ (by rw [if_neg (by decide)]; exact h55) ⟨rfl, trivial⟩
        · intro f W hbW hT hp hd
          have hres : f 56 = .bool false := hT 37 (by decide)
          simp only [putV, List.foldl_cons, List.foldl_nil, Act.put, List.setIfInBounds_toArray, List.set_cons_succ, List.set_cons_zero, Exit.then]
          rw [hres]
          have Hend := Lib.hid hbW
          clear hT hp hd hres hbW hsub9
          go_wp2_with fail
          go_meet
          exact ⟨rfl, Hend.out⟩
      case' rest => skip
      obtain ⟨rfl, hbn⟩ := hcut
      obtain ⟨u4, h_⟩ : ∃ v, v = wc := ⟨_, rfl⟩
      subst h_
      replace HBr := Lib.hid (HBr.out.trans (hbn.mono HBr.out.size))
      have g1' := (hbn.cell (World.block_lt_of_cell? _ _ g1)).trans g1
      have cy' := (hbn.cell (World.block_lt_of_cell? _ _ cy)).trans cy
      have cl1' := (hbn.cell (World.block_lt_of_cell? _ _ cl1)).trans cl1
      have cl2' := (hbn.cell (World.block_lt_of_cell? _ _ cl2)).trans cl2
      clear g1 cy cl0 cl1 cl2 hbn Hcn Hsub hin9
      go_upto_region 7 with fail
      go_quiet (fail)
      have hcs : (c' : Int) + l.c = (c2 : Int) := by have := Hc2.out; have := Hlc.out; omega
      rw [hcs]
      clear g1' cy' cl1' cl2' hcs
      go_wp2_with fail
      exact ⟨⟨i + 1, t2, c2, l.t, by go_num, by omega, rfl, rfl, Htv.out, Hw1.out, below_drewN HBr.out _⟩, by simp [intOf]; omega⟩
    · obtain rfl : L.length = i := by omega
      have d1 : decide ((L.length : Int) < (L.length : Int)) = false := decide_eq_false (by omega)
      have htk : L.take L.length = L := List.take_length
      have hwk2 := Hwk.out
      rw [htk] at hwk2
      obtain ⟨e1, e2⟩ := Hw.out.det2 hwk2
      subst e1
      subst e2
      have hta : tv = at9 := Option.some.inj (Ht.out.symm.trans Hat.out)
      subst hta
      replace HD := Lib.hid (HD.out.below hbx HD.out.lt)
      replace HB := Lib.hid (HB.out.trans (hbx.mono HB.out.size))
      clear hbx
      clear li HBr htk hwk2
      go_upto_region 8 with fail
      have c1_ : wr.cell? ⟨w.heap.size + 1, 1, none⟩ = some (.int .i64 tv) := by rw [HD.out.cell]; rfl
      go_quiet (fail)
      go_wp2_with fail
      go_ret2
      exact ⟨by simp, below_drewN HB.out _⟩
end Go.Proofs.Ytgelchbbknckcaa
