/- SuffixCommons: the walk. -/
import Derived.Test.YtcelkneeedebiaaX24
namespace Go.Proofs.Ytcelkneeedebiaa
open Go Go.RowKit Go.Sort Go.Shelf

theorem comL_getD {X : List UInt8} {l : List Nat} {t : Nat} (h : t < l.length) : (comL X l).getD t 0 = comAt X l t := by rw [List.getD_eq_getElem?_getD, comL_at h]; rfl
theorem nat_at {w : World} {ob oo m : Nat} {l : List Nat} (ho : Rd w 1 (some ⟨ob, oo, none⟩) m (l.map natV)) {i : Nat} (hi : i < m) : w.cell? ⟨ob, oo + i, none⟩ = some (.int .i64 (l.getD i 0 : Int)) := by
  obtain ⟨b, off, x, e, hx, hc⟩ := ho.at_ hi
  cases e
  rw [List.getD_eq_getElem?_getD, hx]
  exact hc
set_option maxRecDepth 100000 in
set_option maxHeartbeats 4000000 in
theorem SuffixCommons_any (A : Option Addr) (n c : Nat) (xs : List UInt8) (w : World) (hx : Rd w 1 A n (xs.map byteV)) (hc : n ≤ c) :
    Calls Try.prog 7 #[.slice A n c] w fun e w' => e = .returned (.bool true) ∧ Below w.heap.size w w' := by
  have Hx := Lib.hid hx
  have HB := Lib.hid (Below.refl w.heap.size w)
  clear hx
  go_enter Try.func7, Try.ntmps7
  go_wp2_with fail
  refine (sanity_any w).mono ?_
  rintro e_ v1 ⟨rfl, hb_⟩
  replace Hx := Lib.hid (Hx.out.below hb_)
  replace HB := Lib.hid (HB.out.trans (hb_.mono HB.out.size))
  clear hb_
  go_wp2_with fail
  refine (Limited_any A n c 60 xs v1 Hx.out hc (by decide)).mono ?_
  rintro e_ v2 ⟨⟨n1, rfl, hn1c, hn1K, hr_⟩, hw_⟩
  subst hw_
  obtain ⟨X, hX⟩ : ∃ B, B = xs.take 60 := ⟨_, rfl⟩
  rw [← hX] at hr_
  have HX := Lib.hid hr_
  have HXl := Lib.hid (show X.length = n1 from hr_.len1)
  clear hr_ hX
  clear Hx
  go_wp2_with fail
  refine (ROrder_any A n1 c X v2 HX.out hn1c (by omega)).mono ?_
  rintro e_ v3 ⟨⟨O, oc, l, rfl, hoc, ho, hord⟩, hb_⟩
  replace HB := Lib.hid (HB.out.trans (hb_.mono HB.out.size))
  replace HX := Lib.hid (HX.out.below hb_)
  clear hb_
  have HO := Lib.hid ho
  have Hord := Lib.hid hord
  have Hll := Lib.hid (show l.length = n1 by rw [hord.len]; exact HXl.out)
  have Hlt := Lib.hid (show ∀ i ∈ l, i < n1 from fun i hi => by rw [← HXl.out]; exact hord.mem.1 hi)
  clear ho hord
  go_wp2_with fail
  refine (Common_any A O n1 n1 c oc X l v3 HX.out HO.out hn1c (by omega) Hlt.out).mono ?_
  rintro e_ v4 ⟨⟨C1, cc1, rfl, hcc1, hc1⟩, hb_⟩
  replace HB := Lib.hid (HB.out.trans (hb_.mono HB.out.size))
  replace HX := Lib.hid (HX.out.below hb_)
  replace HO := Lib.hid (HO.out.below hb_)
  clear hb_
  have HC := Lib.hid hc1
  clear hc1
  have d5 : ((n1 : Int) != (n1 : Int)) = false := by simp
  have d6 : (n1 != n1) = false := by simp
  by_cases hz : n1 = 0
  · have z1 : decide ((n1 : Int) > 0) = false := decide_eq_false (by omega)
    have z2 : decide (0 < n1) = false := decide_eq_false (by omega)
    have z3 : decide ((0 : Int) < (n1 : Int)) = false := decide_eq_false (by omega)
    have z4 : decide (((0 : Nat) : Int) < (n1 : Int)) = false := decide_eq_false (by omega)
    have Hz := Lib.hid hz
    clear hz
    go_wp2_with fail
    go_loopw [7, 8, 9] (fun v7 _ _ wr => v7 = .int .i64 0 ∧ Below v4.heap.size v4 wr) (fun _ _ _ _ => 0)
    case atStart => exact ⟨rfl, Below.refl _ _⟩
    case round =>
      obtain ⟨rfl, hBr⟩ := hrel
      have HE := Lib.hid (HB.out.trans (hBr.mono HB.out.size))
      clear hBr d5 d6
      go_wp2_with fail
      go_ret
      exact ⟨rfl, HE.out⟩
  · have z1 : decide ((n1 : Int) > 0) = true := decide_eq_true (by omega)
    have z2 : decide (0 < n1) = true := decide_eq_true (by omega)
    have z3 : (0 : Int) < (n1 : Int) := by omega
    obtain ⟨cb, co, rfl, _⟩ := HC.out.2.2 (by omega)
    obtain ⟨ob, oo, rfl, _⟩ := HO.out.2.2 (by omega)
    obtain ⟨bb, bo, rfl, _⟩ := HX.out.2.2 (by omega)
    have hc0 : v4.cell? ⟨cb, co, none⟩ = some (.int .i64 0) := by
      have := nat_at HC.out (i := 0) (by omega)
      rw [comL_getD (by rw [Hll.out]; omega)] at this
      exact this
    clear hz
    go_wp2_with fail
    go_loopw [7, 8, 9] (fun v7 _ _ wr => ∃ i : Nat, v7 = .int .i64 (i : Int) ∧ i ≤ n1 ∧ Below v4.heap.size v4 wr) (fun v7 _ _ _ => n1 - (intOf v7).toNat)
    case atStart => exact ⟨0, rfl, by omega, Below.refl _ _⟩
    case round =>
      obtain ⟨i, rfl, hi, hBr⟩ := hrel
      have HBr := Lib.hid hBr
      clear hBr d5 d6 z1 z2 z3 hc0
      by_cases hlt : i < n1
      · have d0 : decide ((i : Int) < (n1 : Int)) = true := decide_eq_true (by omega)
        obtain ⟨wo, hwo⟩ : ∃ v, v = wr := ⟨_, rfl⟩
        subst hwo
        go_wp2_with fail
        clear d0
        go_loopw [8, 9] (fun v8 v9 wr => ∃ k d : Nat, v9 = .int .i64 (k : Int) ∧ k = i + 1 + d ∧ k ≤ n1 ∧ v8 = .int .i64 (leastTo X l i d : Int) ∧ Below v4.heap.size v4 wr) (fun _ v9 _ => n1 - (intOf v9).toNat)
        case atStart => exact ⟨i + 1, 0, by push_cast; rfl, by omega, by omega, by show _ = Value.int .i64 ((X.length : Nat) : Int); rw [HXl.out], HBr.out⟩
        case round =>
          clear HBr
          obtain ⟨k, d, rfl, hkd, hk, rfl, hBk⟩ := hrel
          have HBk := Lib.hid hBk
          have hszk := hBk.size
          clear hBk
          by_cases hkl : k < n1
          · have d0 : decide ((k : Int) < (n1 : Int)) = true := decide_eq_true (by omega)
            have hck := nat_at (HC.out.below HBk.out) hkl
            rw [comL_getD (by rw [Hll.out]; exact hkl)] at hck
            obtain ⟨hpn, hp1⟩ := ord_at (HO.out.below HBk.out) Hlt.out hlt
            obtain ⟨hqn, hq1⟩ := ord_at (HO.out.below HBk.out) Hlt.out hkl
            have hls := leastTo_shared Hord.out (i := i) d (by rw [Hll.out]; omega)
            rw [show i + d + 1 = k by omega] at hls
            have hstep : leastTo X l i (d + 1) = min (leastTo X l i d) (comAt X l k) := by
              show min (leastTo X l i d) (comAt X l (i + d + 1)) = _
              rw [show i + d + 1 = k by omega]
            obtain ⟨p, hp⟩ : ∃ p, p = l.getD i 0 := ⟨_, rfl⟩
            obtain ⟨q, hq⟩ : ∃ q, q = l.getD k 0 := ⟨_, rfl⟩
            rw [← hp] at hls hpn hp1
            rw [← hq] at hls hqn hq1
            obtain ⟨s, hs⟩ : ∃ s, s = leastTo X l i (d + 1) := ⟨_, rfl⟩
            rw [← hs] at hls hstep
            have HS := Lib.hid hls
            have Hs := Lib.hid hs
            have Hstep := Lib.hid hstep
            obtain ⟨u, hu⟩ : ∃ u, u = comAt X l k := ⟨_, rfl⟩
            obtain ⟨v, hv⟩ : ∃ v, v = leastTo X l i d := ⟨_, rfl⟩
            rw [← hu] at hck Hstep
            rw [← hv] at Hstep
            rw [← hv]
            have k0 : (0 : Int) ≤ (k : Int) := by omega
            have k1 : (k : Int) < (n1 : Int) := by omega
            have i0 : (0 : Int) ≤ (i : Int) := by omega
            have i1 : (i : Int) < (n1 : Int) := by omega
            have Hp := Lib.hid (rd_drop (HX.out.below HBk.out) (show p ≤ n1 by omega))
            have Hq := Lib.hid (rd_drop (HX.out.below HBk.out) (show q ≤ n1 by omega))
            have Hkd := Lib.hid hkd
            clear hls hstep hs hp hq hu hv hkd
            go_upto_region 15 with fail
            rw [show min (v : Int) (u : Int) = (s : Int) by rw [Hstep.out]; omega]
            refine wp_region_flowF [56, 57, 58, 59, 60, 61, 62, 63, 64, 65, 66, 67, 68, 69, 70] [(Spec.is (.slice (some ⟨bb, bo, none⟩) n1 c), false), (Spec.is (.slice (some ⟨ob, oo, none⟩) n1 oc), false), (Spec.is (.int .i64 (i : Int)), false), (Spec.is (.pointer (some ⟨ob, oo + i, none⟩)), false), (Spec.is (.int .i64 (p : Int)), false), (Spec.is (.slice (some ⟨bb, bo + p, none⟩) (n1 - p) (c - p)), false), (Spec.is (.slice (some ⟨bb, bo, none⟩) n1 c), false), (Spec.is (.slice (some ⟨ob, oo, none⟩) n1 oc), false), (Spec.is (.int .i64 (k : Int)), false), (Spec.is (.pointer (some ⟨ob, oo + k, none⟩)), false), (Spec.is (.int .i64 (q : Int)), false), (Spec.is (.slice (some ⟨bb, bo + q, none⟩) (n1 - q) (c - q)), false), (Spec.is (.int .i64 (s : Int)), false), (Spec.is (.int .i64 (s : Int)), false), (Spec.is (.bool false), false)] 72 (by kernel_rfl) rfl (by decide) rfl (by decide) (by kernel_rfl) ?_ ?_
            · refine ⟨?_, ?_, ?_, ?_, ?_, ?_, ?_, ?_, ?_, ?_, ?_, ?_, ?_, ?_, ?_, trivial⟩
              · intro a W hE hb hs
                have h4 : a.eval (.tmp 4) = .slice (some ⟨bb, bo, none⟩) n1 c := hb 4 (by decide)
                refine flow0 rfl ?_
                exact val_move _ rfl _ h4 ⟨rfl, trivial⟩
              · intro a W hE hb hs
                have h5 : a.eval (.tmp 5) = .slice (some ⟨ob, oo, none⟩) n1 oc := hb 5 (by decide)
                refine flow0 rfl ?_
                exact val_move _ rfl _ h5 ⟨rfl, trivial⟩
              · intro a W hE hb hs
                have h7 : a.eval (.tmp 7) = .int .i64 (i : Int) := hb 7 (by decide)
                refine flow0 rfl ?_
                exact val_move _ rfl _ h7 ⟨rfl, trivial⟩
              · intro a W hE hb hs
                have h57 : a.eval (.tmp 57) = .slice (some ⟨ob, oo, none⟩) n1 oc := hs 1 (by decide)
                have h58 : a.eval (.tmp 58) = .int .i64 (i : Int) := hs 2 (by decide)
                refine flow0 rfl ?_
                intro K hK
                unfold Oper.wp execOp
                simp only [h57, h58]
                simp [go_sem, i1]
                exact hK _ _ ⟨Below.refl _ _, rfl, trivial⟩
              · intro a W hE hb hs
                have h59 : a.eval (.tmp 59) = .pointer (some ⟨ob, oo + i, none⟩) := hs 3 (by decide)
                refine flow0 rfl ?_
                have c1 : W.cell? ⟨ob, oo + i, none⟩ = some (.int .i64 (p : Int)) := cell_ext hE hp1
                intro K hK
                unfold Oper.wp execOp
                simp only [h59]
                simp [go_sem, c1]
                exact hK _ _ ⟨Below.refl _ _, rfl, trivial⟩
              · intro a W hE hb hs
                have h56 : a.eval (.tmp 56) = .slice (some ⟨bb, bo, none⟩) n1 c := hs 0 (by decide)
                have h60 : a.eval (.tmp 60) = .int .i64 (p : Int) := hs 4 (by decide)
                refine flow0 rfl ?_
                exact val_slice_lo _ _ _ rfl (some ⟨bb, bo, none⟩) n1 c p h56 h60 (run_sliceAt_bytes bb bo n1 c p hpn hn1c W) ⟨rfl, trivial⟩
              · intro a W hE hb hs
                have h4 : a.eval (.tmp 4) = .slice (some ⟨bb, bo, none⟩) n1 c := hb 4 (by decide)
                refine flow0 rfl ?_
                exact val_move _ rfl _ h4 ⟨rfl, trivial⟩
              · intro a W hE hb hs
                have h5 : a.eval (.tmp 5) = .slice (some ⟨ob, oo, none⟩) n1 oc := hb 5 (by decide)
                refine flow0 rfl ?_
                exact val_move _ rfl _ h5 ⟨rfl, trivial⟩
              · intro a W hE hb hs
                have h9 : a.eval (.tmp 9) = .int .i64 (k : Int) := hb 9 (by decide)
                refine flow0 rfl ?_
                exact val_move _ rfl _ h9 ⟨rfl, trivial⟩
              · intro a W hE hb hs
                have h63 : a.eval (.tmp 63) = .slice (some ⟨ob, oo, none⟩) n1 oc := hs 7 (by decide)
                have h64 : a.eval (.tmp 64) = .int .i64 (k : Int) := hs 8 (by decide)
                refine flow0 rfl ?_
                intro K hK
                unfold Oper.wp execOp
                simp only [h63, h64]
                simp [go_sem, k1]
                exact hK _ _ ⟨Below.refl _ _, rfl, trivial⟩
              · intro a W hE hb hs
                have h65 : a.eval (.tmp 65) = .pointer (some ⟨ob, oo + k, none⟩) := hs 9 (by decide)
                refine flow0 rfl ?_
                have c1 : W.cell? ⟨ob, oo + k, none⟩ = some (.int .i64 (q : Int)) := cell_ext hE hq1
                intro K hK
                unfold Oper.wp execOp
                simp only [h65]
                simp [go_sem, c1]
                exact hK _ _ ⟨Below.refl _ _, rfl, trivial⟩
              · intro a W hE hb hs
                have h62 : a.eval (.tmp 62) = .slice (some ⟨bb, bo, none⟩) n1 c := hs 6 (by decide)
                have h66 : a.eval (.tmp 66) = .int .i64 (q : Int) := hs 10 (by decide)
                refine flow0 rfl ?_
                exact val_slice_lo _ _ _ rfl (some ⟨bb, bo, none⟩) n1 c q h62 h66 (run_sliceAt_bytes bb bo n1 c q hqn hn1c W) ⟨rfl, trivial⟩
              · intro a W hE hb hs
                have h61 : a.eval (.tmp 61) = .slice (some ⟨bb, bo + p, none⟩) (n1 - p) (c - p) := hs 5 (by decide)
                have h67 : a.eval (.tmp 67) = .slice (some ⟨bb, bo + q, none⟩) (n1 - q) (c - q) := hs 11 (by decide)
                refine flow0 rfl ?_
                exact val_call 21 _ _ rfl (by kernel_rfl) [.slice (some ⟨bb, bo + p, none⟩) (n1 - p) (c - p), .slice (some ⟨bb, bo + q, none⟩) (n1 - q) (c - q)] (by show [a.eval (.tmp 61), a.eval (.tmp 67)] = _; rw [h61, h67]) ((RShared_any _ _ _ _ _ _ (X.drop p) (X.drop q) W ((Hp.out).below (ext_below hE)) ((Hq.out).below (ext_below hE))).mono (by rw [HS.out]; rintro e W' ⟨rfl, hb⟩; exact ⟨_, rfl, hb, rfl, trivial⟩))
              · intro a W hE hb hs
                have h8 : a.eval (.tmp 8) = .int .i64 (s : Int) := hb 8 (by decide)
                refine flow0 rfl ?_
                exact val_move _ rfl _ h8 ⟨rfl, trivial⟩
              · intro a W hE hb hs
                have h68 : a.eval (.tmp 68) = .int .i64 (s : Int) := hs 12 (by decide)
                have h69 : a.eval (.tmp 69) = .int .i64 (s : Int) := hs 13 (by decide)
                refine flow0 rfl ?_
                intro K hK
                unfold Oper.wp execOp
                simp only [h68, h69]
                simp [go_sem]
                exact hK _ _ ⟨Below.refl _ _, rfl, trivial⟩
            intro f W hb hT hp hd
            have e70 : f 70 = .bool false := hT 14 (by decide)
            have HbW := Lib.hid (HBk.out.trans (hb.mono hszk))
            simp only [putV, List.foldl_cons, List.foldl_nil, Act.put, List.setIfInBounds_toArray, List.set_cons_succ, List.set_cons_zero, Exit.then]
            rw [e70]
            clear hb hT hp hd e70 HS hp1 hq1 hck
            go_wp2_with fail
            exact ⟨⟨k + 1, d + 1, by go_num, by have := Hkd.out; omega, by omega, by rw [Hs.out], HbW.out⟩, by simp [intOf]; omega⟩
          · have d0 : decide ((k : Int) < (n1 : Int)) = false := decide_eq_false (by omega)
            have d1 : decide (k < n1) = false := decide_eq_false hkl
            clear hkl hkd
            go_wp2_with fail
            exact ⟨⟨i + 1, by go_num, by omega, HBk.out⟩, by simp [intOf]; omega⟩
      · have d0 : decide ((i : Int) < (n1 : Int)) = false := decide_eq_false (by omega)
        have d1 : decide (i < n1) = false := decide_eq_false hlt
        have HE := Lib.hid (HB.out.trans (HBr.out.mono HB.out.size))
        clear hlt
        go_wp2_with fail
        go_ret
        exact ⟨rfl, HE.out⟩
end Go.Proofs.Ytcelkneeedebiaa
