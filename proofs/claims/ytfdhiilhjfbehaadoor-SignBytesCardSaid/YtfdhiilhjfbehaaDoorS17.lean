/- Parts of the laws: Limited, SameSums. -/
import Derived.Test.YtfdhiilhjfbehaaDoorS16
namespace Go.Proofs.YtfdhiilhjfbehaaDoor
open Go.RowKit Go.Sort

theorem rd_take {w : World} {A : Option Addr} {n m : Nat} {bs : List UInt8} (h : Rd w 1 A n (bs.map byteV)) (hm : m ≤ n) : Rd w 1 A m ((bs.take m).map byteV) := by
  have hl := h.len1
  refine ⟨by rw [List.length_map, List.length_take]; omega, by have := h.2.1; omega, fun h0 => ?_⟩
  obtain ⟨b, off, e, hc⟩ := h.2.2 (by omega)
  refine ⟨b, off, e, fun j u hu => hc j u ?_⟩
  rw [List.map_take, List.getElem?_take] at hu
  split at hu
  · exact hu
  · cases hu
set_option maxHeartbeats 1000000 in
theorem Limited_any (A : Option Addr) (len cap K : Nat) (bs : List UInt8) (w : World) (hr : Rd w 1 A len (bs.map byteV)) (hlc : len ≤ cap) (hK : K ≤ 100000) :
    Calls Tryd.prog 12 #[.slice A len cap, .int .i64 (K : Int)] w fun e w' => (∃ len' : Nat, e = .returned (.slice A len' cap) ∧ len' ≤ cap ∧ len' ≤ K ∧ Rd w 1 A len' ((bs.take K).map byteV)) ∧ w' = w := by
  have hl := hr.len1
  by_cases h : K < len
  · have d0 : decide ((len : Int) > (K : Int)) = true := decide_eq_true (by omega)
    have d1 : decide ((K : Int) < (len : Int)) = true := decide_eq_true (by omega)
    have HT := Lib.hid (rd_take hr (m := K) (by omega))
    go_enter Tryd.func12, Tryd.ntmps12
    clear hr hl
    go_wp2
    go_ret
    exact ⟨⟨K, rfl, by omega, by omega, HT.out⟩, rfl⟩
  · have d0 : decide ((len : Int) > (K : Int)) = false := decide_eq_false (by omega)
    have d1 : decide ((K : Int) < (len : Int)) = false := decide_eq_false (by omega)
    have HT := Lib.hid hr
    have Hl := Lib.hid (show bs.take K = bs from List.take_of_length_le (by omega))
    go_enter Tryd.func12, Tryd.ntmps12
    clear hr hl
    go_wp2
    go_ret
    exact ⟨⟨len, rfl, by omega, by omega, by rw [Hl.out]; exact HT.out⟩, rfl⟩
theorem take_eq_succ {xs ys : List Sum32} {k : Nat} (h : xs.take k = ys.take k) {x y : Sum32} (hx : xs[k]? = some x) (hy : ys[k]? = some y) (e : x = y) : xs.take (k + 1) = ys.take (k + 1) := by
  rw [List.take_add_one, List.take_add_one, h, hx, hy, e]
set_option maxRecDepth 100000 in
set_option maxHeartbeats 1000000 in
theorem SameSums_any (A B : Option Addr) (n m c d : Nat) (xs ys : List Sum32) (w : World) (hx : Rd w 32 A n (xs.flatMap sumC)) (hy : Rd w 32 B m (ys.flatMap sumC)) (hn : n ≤ 1000) (hm : m ≤ 1000) :
    Calls Tryd.prog 29 #[.slice A n c, .slice B m d] w fun e w' => e = .returned (.bool (decide (xs = ys))) ∧ Below w.heap.size w w' := by
  have hxl := hx.lenf sumC_len (by omega)
  have hyl := hy.lenf sumC_len (by omega)
  obtain ⟨R, hR⟩ : ∃ R, R = decide (xs = ys) := ⟨_, rfl⟩
  rw [← hR]
  have HR := Lib.hid hR
  clear hR
  go_enter Tryd.func29, Tryd.ntmps29
  by_cases hnm : n = m
  rotate_left
  · have d0 : ((n : Int) == (m : Int)) = false := by rw [beq_eq_false_iff_ne]; omega
    have Hr := Lib.hid (show R = false by rw [HR.out]; exact decide_eq_false (fun e => hnm (by rw [← hxl, ← hyl, e])))
    clear hx hy hxl hyl
    go_wp2_with fail
    go_ret
    exact ⟨by rw [Hr.out]; rfl, Below.refl _ _⟩
  subst hnm
  have d0 : ((n : Int) == (n : Int)) = true := by rw [beq_iff_eq]
  have HXs := Lib.hid hx
  have HYs := Lib.hid hy
  have Hxl := Lib.hid hxl
  have Hyl := Lib.hid hyl
  clear hx hy hxl hyl
  go_wp2_with fail
  go_loopw [5] (fun v5 wr => ∃ k : Nat, v5 = .int .i64 (k : Int) ∧ k ≤ n ∧ xs.take k = ys.take k ∧ Below w.heap.size w wr) (fun v5 _ => n - (intOf v5).toNat)
  case atStart => exact ⟨0, rfl, by omega, rfl, Below.refl _ _⟩
  case round =>
    obtain ⟨k, rfl, hk, htk, hB⟩ := hrel
    have Htk := Lib.hid htk
    have HB := Lib.hid hB
    clear htk hB
    by_cases hlt : k < n
    · have d1 : decide ((k : Int) < (n : Int)) = true := decide_eq_true (by omega)
      have hkn : (k : Int) < (n : Int) := by omega
      have hk0 : (0 : Int) ≤ (k : Int) := by omega
      obtain ⟨ab, ao, rfl, _⟩ := HXs.out.2.2 (by omega)
      obtain ⟨bb, bo, rfl, _⟩ := HYs.out.2.2 (by omega)
      obtain ⟨x, hx⟩ : ∃ x, xs[k]? = some x := ⟨_, List.getElem?_eq_getElem (by rw [Hxl.out]; exact hlt)⟩
      obtain ⟨y, hy⟩ : ∃ y, ys[k]? = some y := ⟨_, List.getElem?_eq_getElem (by rw [Hyl.out]; exact hlt)⟩
      have Hx := Lib.hid (show ∀ W, Below wr.heap.size wr W → W.rangeAt ab (ao + k * 32) (sumC x) from fun W hW => by
        have := ((HXs.out.below HB.out).below hW).range32 hlt
        rwa [List.getD_eq_getElem?_getD, hx] at this)
      have Hy := Lib.hid (show ∀ W, Below wr.heap.size wr W → W.rangeAt bb (bo + k * 32) (sumC y) from fun W hW => by
        have := ((HYs.out.below HB.out).below hW).range32 hlt
        rwa [List.getD_eq_getElem?_getD, hy] at this)
      have HX := Lib.hid hx
      have HY := Lib.hid hy
      clear hx hy
      go_upto_region 6 with fail
      refine wp_region_flowF [17, 18, 19, 20, 21, 22, 23, 24, 25] [(Spec.is (.slice (some ⟨ab, ao, none⟩) n c), false), (Spec.is (.int .i64 (k : Int)), false), (Spec.is (.pointer (some ⟨ab, ao + k * 32, none⟩)), false), (Spec.is (.agg (sumC x).toArray), false), (Spec.is (.slice (some ⟨bb, bo, none⟩) n d), false), (Spec.is (.int .i64 (k : Int)), false), (Spec.is (.pointer (some ⟨bb, bo + k * 32, none⟩)), false), (Spec.is (.agg (sumC y).toArray), false), (Spec.is (.bool (!decide (x = y))), false)] 26 (by kernel_rfl) rfl (by decide) rfl (by decide) (by kernel_rfl) ?_ ?_
      · refine ⟨?_, ?_, ?_, ?_, ?_, ?_, ?_, ?_, ?_, trivial⟩
        · intro a W hE hb hs
          have h0 : a.eval (.tmp 0) = .slice (some ⟨ab, ao, none⟩) n c := hb 0 (by decide)
          refine flow0 rfl ?_
          exact val_move _ rfl _ h0 ⟨rfl, trivial⟩
        · intro a W hE hb hs
          have h5 : a.eval (.tmp 5) = .int .i64 (k : Int) := hb 5 (by decide)
          refine flow0 rfl ?_
          exact val_move _ rfl _ h5 ⟨rfl, trivial⟩
        · intro a W hE hb hs
          have h17 : a.eval (.tmp 17) = .slice (some ⟨ab, ao, none⟩) n c := hs 0 (by decide)
          have h18 : a.eval (.tmp 18) = .int .i64 (k : Int) := hs 1 (by decide)
          refine flow0 rfl ?_
          intro K hK
          unfold Oper.wp execOp
          simp only [h17, h18]
          simp [go_sem, hkn, hk0]
          exact hK _ _ ⟨Below.refl _ _, rfl, trivial⟩
        · intro a W hE hb hs
          have h19 : a.eval (.tmp 19) = .pointer (some ⟨ab, ao + k * 32, none⟩) := hs 2 (by decide)
          refine flow0 rfl ?_
          exact val_load_row 26 _ rfl ab (ao + k * 32) h19 (sumC x) _ (Hx.out W (ext_below hE)) und32 rfl (by rw [sumC_len]; kernel_rfl) ⟨rfl, trivial⟩
        · intro a W hE hb hs
          have h1 : a.eval (.tmp 1) = .slice (some ⟨bb, bo, none⟩) n d := hb 1 (by decide)
          refine flow0 rfl ?_
          exact val_move _ rfl _ h1 ⟨rfl, trivial⟩
        · intro a W hE hb hs
          have h5 : a.eval (.tmp 5) = .int .i64 (k : Int) := hb 5 (by decide)
          refine flow0 rfl ?_
          exact val_move _ rfl _ h5 ⟨rfl, trivial⟩
        · intro a W hE hb hs
          have h21 : a.eval (.tmp 21) = .slice (some ⟨bb, bo, none⟩) n d := hs 4 (by decide)
          have h22 : a.eval (.tmp 22) = .int .i64 (k : Int) := hs 5 (by decide)
          refine flow0 rfl ?_
          intro K hK
          unfold Oper.wp execOp
          simp only [h21, h22]
          simp [go_sem, hkn, hk0]
          exact hK _ _ ⟨Below.refl _ _, rfl, trivial⟩
        · intro a W hE hb hs
          have h23 : a.eval (.tmp 23) = .pointer (some ⟨bb, bo + k * 32, none⟩) := hs 6 (by decide)
          refine flow0 rfl ?_
          exact val_load_row 26 _ rfl bb (bo + k * 32) h23 (sumC y) _ (Hy.out W (ext_below hE)) und32 rfl (by rw [sumC_len]; kernel_rfl) ⟨rfl, trivial⟩
        · intro a W hE hb hs
          have h20 : a.eval (.tmp 20) = .agg (sumC x).toArray := hs 3 (by decide)
          have h24 : a.eval (.tmp 24) = .agg (sumC y).toArray := hs 7 (by decide)
          refine flow0 rfl ?_
          intro K hK
          unfold Oper.wp execOp
          simp only [h20, h24]
          simp [go_sem, run_neq_sum]
          exact hK _ _ ⟨Below.refl _ _, rfl, trivial⟩
      · intro f W hb hT hp hd
        have e25 : f 25 = .bool (!decide (x = y)) := hT 8 (by decide)
        have HbW := Lib.hid (HB.out.trans (hb.mono HB.out.size))
        simp only [putV, List.foldl_cons, List.foldl_nil, Act.put, List.setIfInBounds_toArray, List.set_cons_succ, List.set_cons_zero, Exit.then]
        rw [e25]
        clear hb hT hp hd e25
        by_cases hxy : x = y
        · have e0 : decide (x = y) = true := decide_eq_true hxy
          rw [e0]
          have Hn := Lib.hid (take_eq_succ Htk.out HX.out HY.out hxy)
          clear e0 hxy
          go_wp2_with fail
          exact ⟨⟨k + 1, by push_cast; rfl, by omega, Hn.out, HbW.out⟩, by simp only [intOf]; omega⟩
        · have e0 : decide (x = y) = false := decide_eq_false hxy
          rw [e0]
          have Hr := Lib.hid (show R = false by
            rw [HR.out]; refine decide_eq_false (fun e => hxy ?_)
            have h1 := HX.out; rw [e, HY.out] at h1; exact (Option.some.inj h1).symm)
          clear e0 hxy
          go_wp2_with fail
          go_ret
          exact ⟨by rw [Hr.out]; rfl, HbW.out⟩
    · obtain rfl : k = n := by omega
      have d1 : decide ((k : Int) < (k : Int)) = false := decide_eq_false (by omega)
      have Hr := Lib.hid (show R = true by
        have h := Htk.out
        rw [List.take_of_length_le (by rw [Hxl.out]; omega), List.take_of_length_le (by rw [Hyl.out]; omega)] at h
        rw [HR.out]; exact decide_eq_true h)
      clear hlt
      go_wp2_with fail
      go_ret
      exact ⟨by rw [Hr.out]; rfl, HB.out⟩
end Go.Proofs.YtfdhiilhjfbehaaDoor
