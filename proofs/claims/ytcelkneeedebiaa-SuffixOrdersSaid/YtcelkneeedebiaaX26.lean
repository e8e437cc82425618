/- SuffixOrders: the walk. -/
import Derived.Test.YtcelkneeedebiaaX24
namespace Go.Proofs.Ytcelkneeedebiaa
open Go Go.RowKit Go.Sort Go.Shelf

set_option maxRecDepth 100000 in
set_option maxHeartbeats 4000000 in
theorem SuffixOrders_any (A : Option Addr) (n c : Nat) (xs : List UInt8) (w : World) (hx : Rd w 1 A n (xs.map byteV)) (hc : n ≤ c) :
    Calls Try.prog 4 #[.slice A n c] w fun e w' => e = .returned (.bool true) ∧ Below w.heap.size w w' := by
  have Hx := Lib.hid hx
  have HB := Lib.hid (Below.refl w.heap.size w)
  clear hx
  go_enter Try.func4, Try.ntmps4
  go_wp2_with fail
  refine (sanity_any w).mono ?_
  rintro e_ v1 ⟨rfl, hb_⟩
  replace Hx := Lib.hid (Hx.out.below hb_)
  replace HB := Lib.hid (HB.out.trans (hb_.mono HB.out.size))
  clear hb_
  go_wp2_with fail
  refine (Limited_any A n c 400 xs v1 Hx.out hc (by decide)).mono ?_
  rintro e_ v2 ⟨⟨n1, rfl, hn1c, hn1K, hr_⟩, hw_⟩
  subst hw_
  obtain ⟨X, hX⟩ : ∃ B, B = xs.take 400 := ⟨_, rfl⟩
  rw [← hX] at hr_
  have HX := Lib.hid hr_
  have HXl := Lib.hid (show X.length = n1 from hr_.len1)
  clear hr_ hX
  clear Hx
  go_wp2_with fail
  refine (Order_any A n1 c X v2 HX.out (by omega)).mono ?_
  rintro e_ v3 ⟨⟨O, oc, l, rfl, hoc, ho, hord⟩, hb_⟩
  replace HB := Lib.hid (HB.out.trans (hb_.mono HB.out.size))
  replace HX := Lib.hid (HX.out.below hb_)
  clear hb_
  have HO := Lib.hid ho
  have Hord := Lib.hid hord
  have Hll := Lib.hid (show l.length = n1 by rw [hord.len]; exact HXl.out)
  have Hlt := Lib.hid (show ∀ i ∈ l, i < n1 from fun i hi => by rw [← HXl.out]; exact hord.mem.1 hi)
  clear ho hord
  have d5 : ((n1 : Int) != (n1 : Int)) = false := by simp
  have d6 : (n1 != n1) = false := by simp
  go_wp2_with fail
  refine (Perm_any O n1 oc l v3 (by rw [← ints_nat]; exact HO.out) (by omega) (by have := Hord.out.1; rwa [HXl.out] at this)).mono ?_
  rintro e_ v4 ⟨rfl, hb_⟩
  replace HB := Lib.hid (HB.out.trans (hb_.mono HB.out.size))
  replace HX := Lib.hid (HX.out.below hb_)
  replace HO := Lib.hid (HO.out.below hb_)
  clear hb_
  have d7 : decide (n1 = n1) = true := by simp
  go_wp2_with fail
  go_loopw [6] (fun v6 wr => ∃ i : Nat, v6 = .int .i64 (i : Int) ∧ 1 ≤ i ∧ (i ≤ n1 ∨ n1 = 0) ∧ Below v4.heap.size v4 wr) (fun v6 _ => n1 - (intOf v6).toNat)
  case atStart => exact ⟨1, rfl, by omega, by omega, Below.refl _ _⟩
  case round =>
    obtain ⟨i, rfl, h1i, hi, hBr⟩ := hrel
    have HBr := Lib.hid hBr
    have hszr := hBr.size
    clear hBr d5 d6 d7
    by_cases hlt : i < n1
    · have d0 : decide ((i : Int) < (n1 : Int)) = true := decide_eq_true (by omega)
      obtain ⟨bb, bo, rfl, _⟩ := HX.out.2.2 (by omega)
      obtain ⟨ob, oo, rfl, _⟩ := HO.out.2.2 (by omega)
      obtain ⟨j, hj⟩ : ∃ j, i = j + 1 := ⟨i - 1, by omega⟩
      have hjm : j < n1 := by omega
      obtain ⟨hpn, hp1⟩ := ord_at (HO.out.below HBr.out) Hlt.out hjm
      obtain ⟨hqn, hq1⟩ := ord_at (HO.out.below HBr.out) Hlt.out hlt
      have hs : lexlt (X.drop (l.getD j 0)) (X.drop (l.getD i 0)) = true := by
        have hjl : j < l.length := by rw [Hll.out]; exact hjm
        have hil : i < l.length := by rw [Hll.out]; exact hlt
        have := Hord.out.lt (s := j) (t := i) (by omega) hil
        unfold sufLt at this
        rw [getD_of hjl, getD_of hil]; exact this
      generalize l.getD j 0 = p at *
      generalize l.getD i 0 = q at *
      have HS := Lib.hid hs
      have wj : IntKind.i64.wrap ((i : Int) - 1) = (j : Int) := by simp [IntKind.wrap, IntKind.bits, IntKind.signed]; omega
      have j0 : (0 : Int) ≤ (j : Int) := by omega
      have j1 : (j : Int) < (n1 : Int) := by omega
      have i0 : (0 : Int) ≤ (i : Int) := by omega
      have i1 : (i : Int) < (n1 : Int) := by omega
      have Hp := Lib.hid (rd_drop (HX.out.below HBr.out) (show p ≤ n1 by omega))
      have Hq := Lib.hid (rd_drop (HX.out.below HBr.out) (show q ≤ n1 by omega))
      clear hs hj
      go_upto_region 9 with fail
      refine wp_region_flowF [28, 29, 30, 31, 32, 33, 34, 35, 36, 37, 38, 39, 40, 41, 42] [(Spec.is (.slice (some ⟨bb, bo, none⟩) n1 c), false), (Spec.is (.slice (some ⟨ob, oo, none⟩) n1 oc), false), (Spec.is (.int .i64 (i : Int)), false), (Spec.is (.int .i64 (j : Int)), false), (Spec.is (.pointer (some ⟨ob, oo + j, none⟩)), false), (Spec.is (.int .i64 (p : Int)), false), (Spec.is (.slice (some ⟨bb, bo + p, none⟩) (n1 - p) (c - p)), false), (Spec.is (.slice (some ⟨bb, bo, none⟩) n1 c), false), (Spec.is (.slice (some ⟨ob, oo, none⟩) n1 oc), false), (Spec.is (.int .i64 (i : Int)), false), (Spec.is (.pointer (some ⟨ob, oo + i, none⟩)), false), (Spec.is (.int .i64 (q : Int)), false), (Spec.is (.slice (some ⟨bb, bo + q, none⟩) (n1 - q) (c - q)), false), (Spec.is (.bool true), false), (Spec.is (.bool false), false)] 44 (by kernel_rfl) rfl (by decide) rfl (by decide) (by kernel_rfl) ?_ ?_
      · refine ⟨?_, ?_, ?_, ?_, ?_, ?_, ?_, ?_, ?_, ?_, ?_, ?_, ?_, ?_, ?_, trivial⟩
        · intro a W hE hb hs
          have h4 : a.eval (.tmp 4) = .slice (some ⟨bb, bo, none⟩) n1 c := hb 4 (by decide)
          refine flow0 rfl ?_
          exact val_move _ rfl _ h4 ⟨rfl, trivial⟩
        · intro a W hE hb hs
          have h5 : a.eval (.tmp 5) = .slice (some ⟨ob, oo, none⟩) n1 oc := hb 5 (by decide)
          refine flow0 rfl ?_
          exact val_move _ rfl _ h5 ⟨rfl, trivial⟩
        · intro a W hE hb hs
          have h6 : a.eval (.tmp 6) = .int .i64 (i : Int) := hb 6 (by decide)
          refine flow0 rfl ?_
          exact val_move _ rfl _ h6 ⟨rfl, trivial⟩
        · intro a W hE hb hs
          have h30 : a.eval (.tmp 30) = .int .i64 (i : Int) := hs 2 (by decide)
          refine flow0 rfl ?_
          intro K hK
          unfold Oper.wp execOp
          simp only [h30, BigFrame.eval_const]
          simp [go_sem, wj]
          exact hK _ _ ⟨Below.refl _ _, rfl, trivial⟩
        · intro a W hE hb hs
          have h29 : a.eval (.tmp 29) = .slice (some ⟨ob, oo, none⟩) n1 oc := hs 1 (by decide)
          have h31 : a.eval (.tmp 31) = .int .i64 (j : Int) := hs 3 (by decide)
          refine flow0 rfl ?_
          intro K hK
          unfold Oper.wp execOp
          simp only [h29, h31]
          simp [go_sem, j1]
          exact hK _ _ ⟨Below.refl _ _, rfl, trivial⟩
        · intro a W hE hb hs
          have h32 : a.eval (.tmp 32) = .pointer (some ⟨ob, oo + j, none⟩) := hs 4 (by decide)
          refine flow0 rfl ?_
          have c1 : W.cell? ⟨ob, oo + j, none⟩ = some (.int .i64 (p : Int)) := cell_ext hE hp1
          intro K hK
          unfold Oper.wp execOp
          simp only [h32]
          simp [go_sem, c1]
          exact hK _ _ ⟨Below.refl _ _, rfl, trivial⟩
        · intro a W hE hb hs
          have h28 : a.eval (.tmp 28) = .slice (some ⟨bb, bo, none⟩) n1 c := hs 0 (by decide)
          have h33 : a.eval (.tmp 33) = .int .i64 (p : Int) := hs 5 (by decide)
          refine flow0 rfl ?_
          exact val_slice_lo _ _ _ rfl (some ⟨bb, bo, none⟩) n1 c p h28 h33 (run_sliceAt_bytes bb bo n1 c p hpn hn1c W) ⟨rfl, trivial⟩
        · intro a W hE hb hs
          have h4 : a.eval (.tmp 4) = .slice (some ⟨bb, bo, none⟩) n1 c := hb 4 (by decide)
          refine flow0 rfl ?_
          exact val_move _ rfl _ h4 ⟨rfl, trivial⟩
        · intro a W hE hb hs
          have h5 : a.eval (.tmp 5) = .slice (some ⟨ob, oo, none⟩) n1 oc := hb 5 (by decide)
          refine flow0 rfl ?_
          exact val_move _ rfl _ h5 ⟨rfl, trivial⟩
        · intro a W hE hb hs
          have h6 : a.eval (.tmp 6) = .int .i64 (i : Int) := hb 6 (by decide)
          refine flow0 rfl ?_
          exact val_move _ rfl _ h6 ⟨rfl, trivial⟩
        · intro a W hE hb hs
          have h36 : a.eval (.tmp 36) = .slice (some ⟨ob, oo, none⟩) n1 oc := hs 8 (by decide)
          have h37 : a.eval (.tmp 37) = .int .i64 (i : Int) := hs 9 (by decide)
          refine flow0 rfl ?_
          intro K hK
          unfold Oper.wp execOp
          simp only [h36, h37]
          simp [go_sem, i1]
          exact hK _ _ ⟨Below.refl _ _, rfl, trivial⟩
        · intro a W hE hb hs
          have h38 : a.eval (.tmp 38) = .pointer (some ⟨ob, oo + i, none⟩) := hs 10 (by decide)
          refine flow0 rfl ?_
          have c1 : W.cell? ⟨ob, oo + i, none⟩ = some (.int .i64 (q : Int)) := cell_ext hE hq1
          intro K hK
          unfold Oper.wp execOp
          simp only [h38]
          simp [go_sem, c1]
          exact hK _ _ ⟨Below.refl _ _, rfl, trivial⟩
        · intro a W hE hb hs
          have h35 : a.eval (.tmp 35) = .slice (some ⟨bb, bo, none⟩) n1 c := hs 7 (by decide)
          have h39 : a.eval (.tmp 39) = .int .i64 (q : Int) := hs 11 (by decide)
          refine flow0 rfl ?_
          exact val_slice_lo _ _ _ rfl (some ⟨bb, bo, none⟩) n1 c q h35 h39 (run_sliceAt_bytes bb bo n1 c q hqn hn1c W) ⟨rfl, trivial⟩
        · intro a W hE hb hs
          have h34 : a.eval (.tmp 34) = .slice (some ⟨bb, bo + p, none⟩) (n1 - p) (c - p) := hs 6 (by decide)
          have h40 : a.eval (.tmp 40) = .slice (some ⟨bb, bo + q, none⟩) (n1 - q) (c - q) := hs 12 (by decide)
          refine flow0 rfl ?_
          exact val_call 20 _ _ rfl (by kernel_rfl) [.slice (some ⟨bb, bo + p, none⟩) (n1 - p) (c - p), .slice (some ⟨bb, bo + q, none⟩) (n1 - q) (c - q)] (by show [a.eval (.tmp 34), a.eval (.tmp 40)] = _; rw [h34, h40]) ((RLess_any _ _ _ _ _ _ (X.drop p) (X.drop q) W ((Hp.out).below (ext_below hE)) ((Hq.out).below (ext_below hE))).mono (by rw [HS.out]; rintro e W' ⟨rfl, hb⟩; exact ⟨_, rfl, hb, rfl, trivial⟩))
        · intro a W hE hb hs
          have h41 : a.eval (.tmp 41) = .bool true := hs 13 (by decide)
          refine flow0 rfl ?_
          exact val_not _ _ rfl _ h41 ⟨rfl, trivial⟩
      intro f W hb hT hp hd
      have e42 : f 42 = .bool false := hT 14 (by decide)
      have HbW := Lib.hid (HBr.out.trans (hb.mono hszr))
      simp only [putV, List.foldl_cons, List.foldl_nil, Act.put, List.setIfInBounds_toArray, List.set_cons_succ, List.set_cons_zero, Exit.then]
      rw [e42]
      clear hb hT hp hd e42 HS hp1 hq1
      go_wp2_with fail
      exact ⟨⟨i + 1, by go_num, by omega, by omega, HbW.out⟩, by simp [intOf]; omega⟩
    · have d0 : decide ((i : Int) < (n1 : Int)) = false := decide_eq_false (by omega)
      have d1 : decide (i < n1) = false := decide_eq_false hlt
      have HE := Lib.hid (HB.out.trans (HBr.out.mono HB.out.size))
      clear hlt
      go_wp2_with fail
      go_ret
      exact ⟨rfl, HE.out⟩
end Go.Proofs.Ytcelkneeedebiaa
