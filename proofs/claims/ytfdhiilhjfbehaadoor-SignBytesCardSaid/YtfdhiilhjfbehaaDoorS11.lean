/- Package sign's reference: the chunk to which a signature leads. -/
import Derived.Test.YtfdhiilhjfbehaaDoorS10
namespace Go.Proofs.YtfdhiilhjfbehaaDoor
open Go.RowKit Go.Sort

set_option maxRecDepth 100000 in
set_option maxHeartbeats 1000000 in
theorem REnds_any (A : Option Addr) (len cap : Nat) (bs : List UInt8) (i : Int) (C D : Option Addr) (c m d : Nat) (ch : List Sum32) (w : World) (hr : Rd w 1 A len (bs.map byteV)) (hlen : len ≤ 8796093021000) (hch : Rd w 32 C 67 (ch.flatMap sumC)) :
    Calls Tryd.prog 30 #[.slice A len cap, .agg (sgV i C 67 c D m d).toArray] w fun e w' => (∃ (A' : Option Addr) (c' : Nat), e = .returned (.slice A' 2144 c') ∧ 2144 ≤ c' ∧ Rd w' 1 A' 2144 ((endK (digS bs) ch 67).map byteV)) ∧ Below w.heap.size w w' := by
  obtain ⟨i0, hi0, hz0, hz1, hz2⟩ := info_parts info5
  obtain ⟨i32, hi32, hz32, _, _⟩ := info_parts info32
  have hbs := nil22
  have hchl := hch.lenf sumC_len (by omega)
  obtain ⟨cb, co, rfl, _⟩ := hch.2.2 (by omega)
  go_enter Tryd.func30, Tryd.ntmps30
  go_upto_region 1 with fail
  obtain ⟨w1, hw1⟩ : ∃ w1, w1 = w.alloc (.cells (sgV i (some ⟨cb, co, none⟩) 67 c D m d).toArray 37) := ⟨_, rfl⟩
  have hB1 : Below w.heap.size w w1 := by rw [hw1]; exact (Below.refl _ _).alloc (Nat.le_refl _) _
  have hX1 : Blk w1 w.heap.size 37 (sgV i (some ⟨cb, co, none⟩) 67 c D m d).toArray := by rw [hw1]; exact Blk.new _ _ _
  rw [← hw1]
  clear hw1
  go_upto_region 2 with fail
  obtain ⟨w2, hw2⟩ : ∃ w2, w2 = w1.alloc (.cells #[] 5) := ⟨_, rfl⟩
  have hb2 : Below w1.heap.size w1 w2 := by rw [hw2]; exact (Below.refl _ _).alloc (Nat.le_refl _) _
  rw [← hw2]
  clear hw2 hbs
  go_upto_region 3 with fail
  have hb02 := hB1.trans (hb2.mono hB1.size)
  refine (RDigits_any A len cap bs w2 (hr.below hb02) hlen).mono ?_
  rintro e w3 ⟨⟨DA, dc, rfl, hdg⟩, hb3⟩
  have HX := Lib.hid (hX1.below (hb2.trans (hb3.mono hb2.size)) hX1.lt)
  have HB := Lib.hid (hb02.trans (hb3.mono hb02.size))
  have hsz3 := HB.out.size
  have Hch := Lib.hid (hch.below HB.out)
  have Hdl := digS_len bs
  obtain ⟨db, do_, rfl, _⟩ := hdg.2.2 (by omega)
  have Hdd := Lib.hid hdg
  clear hB1 hX1 hb2 hb3 hb02 hdg hr hch
  skip
  go_upto_region 4 with fail
  go_loopw [5, 7, 8] (fun v5 v7 _ wr => ∃ k : Nat, v7 = .int .i64 (k : Int) ∧ k ≤ 67 ∧ App wr w3.heap.size 5 v5 (32 * k) ((endK (digS bs) ch k).map byteV) ∧ Below w3.heap.size w3 wr) (fun _ v7 _ _ => 67 - (intOf v7).toNat)
  case atStart => exact ⟨0, rfl, by omega, .inl ⟨rfl, rfl, _, rfl⟩, Below.refl _ _⟩
  case round =>
    obtain ⟨k, rfl, hk, happ, hBr⟩ := hrel
    have Happ := Lib.hid happ
    have HBx := Lib.hid hBr
    have hszr := hBr.size
    clear happ hBr
    by_cases hlt : k < 67
    · have d0 : decide ((k : Int) < 67) = true := decide_eq_true (by omega)
      have hk67 : (k : Int) < 67 := by omega
      have hk0 : (0 : Int) ≤ (k : Int) := by omega
      obtain ⟨dg, hdg, hdl⟩ := digS_at (body := bs) hlt
      obtain ⟨x, hx⟩ : ∃ x, x = ch.getD k z32 := ⟨_, rfl⟩
      have Hek := Lib.hid (show endK (digS bs) ch (k + 1) = endK (digS bs) ch k ++ (stS x (15 - dg)).1 by rw [endK, ← hx, List.getD_eq_getElem?_getD, hdg]; rfl)
      have hx' : ∀ W, Below wr.heap.size wr W → W.rangeAt cb (co + k * 32) (sumC x) := fun W hW => by
        have := ((Hch.out.below HBx.out).below hW).range32 hlt
        rwa [← hx] at this
      have hd' : ∀ W, Below wr.heap.size wr W → W.cell? ⟨db, do_ + k, none⟩ = some (.int .i64 (dg : Int)) := fun W hW => by
        obtain ⟨b', o', u, e1, e2, e3⟩ := ((Hdd.out.below HBx.out).below hW).at_ (k := k) hlt
        cases e1
        rw [hdg] at e2
        cases e2
        exact e3
      have Hx := Lib.hid hx'
      have Hdg := Lib.hid hd'
      have w15 : IntKind.i64.wrap (15 - (dg : Int)) = ((15 - dg : Nat) : Int) := by simp [IntKind.wrap, IntKind.bits, IntKind.signed]; omega
      clear hdg hx hx' hd'
      go_upto_region 6 with fail
      refine wp_region_flow_tail 12 [16, 17, 18, 19, 20, 21, 22, 23, 24, 25, 26, 8] [(Spec.is (.pointer (some ⟨w.heap.size, 1, none⟩)), false), (Spec.is (.slice (some ⟨cb, co, none⟩) 67 c), false), (Spec.is (.int .i64 (k : Int)), false), (Spec.is (.pointer (some ⟨cb, co + k * 32, none⟩)), false), (Spec.is (.agg (sumC x).toArray), false), (Spec.is (.slice (some ⟨db, do_, none⟩) 67 dc), false), (Spec.is (.int .i64 (k : Int)), false), (Spec.is (.pointer (some ⟨db, do_ + k, none⟩)), false), (Spec.is (.int .i64 (dg : Int)), false), (Spec.is (.int .i64 ((15 - dg : Nat) : Int)), false), (Spec.is (.agg (sumC (stS x (15 - dg))).toArray), false), (spVar 26 zero32, true)] 31 (by kernel_rfl) (List.take_append_drop _ _) rfl (by kernel_rfl) (by kernel_rfl) (by kernel_rfl) (by decide) (by kernel_rfl) (by kernel_rfl) (fun _ _ d _ _ h => by cases d <;> exact h) rfl (by decide) rfl (by decide) (by kernel_rfl) ?_ ?_
      · refine ⟨?_, ?_, ?_, ?_, ?_, ?_, ?_, ?_, ?_, ?_, ?_, ?_, trivial⟩
        · intro a W hE hb hs
          have h3 : a.eval (.tmp 3) = .pointer (some ⟨w.heap.size, 0, none⟩) := hb 3 (by decide)
          refine flow0 rfl ?_
          intro K hK
          unfold Oper.wp execOp
          simp only [h3]
          simp [go_sem]
          exact hK _ _ ⟨Below.refl _ _, rfl, trivial⟩
        · intro a W hE hb hs
          have h16 : a.eval (.tmp 16) = .pointer (some ⟨w.heap.size, 1, none⟩) := hs 0 (by decide)
          refine flow0 rfl ?_
          have g0 : W.cell? ⟨w.heap.size, 1, none⟩ = some (.slice (some ⟨cb, co, none⟩) 67 c) := by rw [(HX.out.below (HBx.out.trans ((ext_below hE).mono hszr)) HX.out.lt).cell]; rfl
          intro K hK
          unfold Oper.wp execOp
          simp only [h16]
          simp [go_sem, g0]
          exact hK _ _ ⟨Below.refl _ _, rfl, trivial⟩
        · intro a W hE hb hs
          have h7 : a.eval (.tmp 7) = .int .i64 (k : Int) := hb 7 (by decide)
          refine flow0 rfl ?_
          exact val_move _ rfl _ h7 ⟨rfl, trivial⟩
        · intro a W hE hb hs
          have h17 : a.eval (.tmp 17) = .slice (some ⟨cb, co, none⟩) 67 c := hs 1 (by decide)
          have h18 : a.eval (.tmp 18) = .int .i64 (k : Int) := hs 2 (by decide)
          refine flow0 rfl ?_
          intro K hK
          unfold Oper.wp execOp
          simp only [h17, h18]
          simp [go_sem, hk67, hk0]
          exact hK _ _ ⟨Below.refl _ _, rfl, trivial⟩
        · intro a W hE hb hs
          have h19 : a.eval (.tmp 19) = .pointer (some ⟨cb, co + k * 32, none⟩) := hs 3 (by decide)
          refine flow0 rfl ?_
          exact val_load_row 26 _ rfl cb (co + k * 32) h19 (sumC x) _ (Hx.out W (ext_below hE)) und32 rfl (by rw [sumC_len]; kernel_rfl) ⟨rfl, trivial⟩
        · intro a W hE hb hs
          have h6 : a.eval (.tmp 6) = .slice (some ⟨db, do_, none⟩) 67 dc := hb 6 (by decide)
          refine flow0 rfl ?_
          exact val_move _ rfl _ h6 ⟨rfl, trivial⟩
        · intro a W hE hb hs
          have h7 : a.eval (.tmp 7) = .int .i64 (k : Int) := hb 7 (by decide)
          refine flow0 rfl ?_
          exact val_move _ rfl _ h7 ⟨rfl, trivial⟩
        · intro a W hE hb hs
          have h21 : a.eval (.tmp 21) = .slice (some ⟨db, do_, none⟩) 67 dc := hs 5 (by decide)
          have h22 : a.eval (.tmp 22) = .int .i64 (k : Int) := hs 6 (by decide)
          refine flow0 rfl ?_
          intro K hK
          unfold Oper.wp execOp
          simp only [h21, h22]
          simp [go_sem, hk67, hk0]
          exact hK _ _ ⟨Below.refl _ _, rfl, trivial⟩
        · intro a W hE hb hs
          have h23 : a.eval (.tmp 23) = .pointer (some ⟨db, do_ + k, none⟩) := hs 7 (by decide)
          refine flow0 rfl ?_
          have g0 := Hdg.out W (ext_below hE)
          intro K hK
          unfold Oper.wp execOp
          simp only [h23]
          simp [go_sem, g0]
          exact hK _ _ ⟨Below.refl _ _, rfl, trivial⟩
        · intro a W hE hb hs
          have h24 : a.eval (.tmp 24) = .int .i64 (dg : Int) := hs 8 (by decide)
          refine flow0 rfl ?_
          intro K hK
          unfold Oper.wp execOp
          simp only [h24, BigFrame.eval_const]
          simp [go_sem, w15]
          exact hK _ _ ⟨Below.refl _ _, rfl, trivial⟩
        · intro a W hE hb hs
          have h20 : a.eval (.tmp 20) = .agg (sumC x).toArray := hs 4 (by decide)
          have h25 : a.eval (.tmp 25) = .int .i64 ((15 - dg : Nat) : Int) := hs 9 (by decide)
          refine flow0 rfl ?_
          exact val_call 39 _ _ rfl (by kernel_rfl) [.agg (sumC x).toArray, .int .i64 ((15 - dg : Nat) : Int)] (by show [a.eval (.tmp 20), a.eval (.tmp 25)] = _; rw [h20, h25]) ((RSteps_any x (15 - dg) (by omega) W).mono (by rintro e W' ⟨rfl, hb⟩; exact ⟨_, rfl, hb, rfl, trivial⟩))
        · intro a W hE hb hs
          refine flow0 rfl ?_
          exact val_alloc _ rfl zero32 _ i32 hi32 hz32 rfl ⟨⟨_, rfl, Blk.new _ _ _⟩, _, rfl, Nat.le_refl _, by rw [World.size_alloc]; omega⟩
      · intro f W hb hT hp hd
        obtain ⟨B, eB, hB⟩ : ∃ B, f 8 = .pointer (some ⟨B, 0, none⟩) ∧ Blk W B 26 zero32 := hT 11 (by decide)
        have lB : wr.heap.size ≤ B := by
          obtain ⟨b', h1, h2, _⟩ := hp 11 (by decide) rfl
          have h1' : f 8 = .pointer (some ⟨b', 0, none⟩) := h1
          rw [eB] at h1'
          injection h1' with h; injection h with h; injection h with h
          omega
        have e26 : f 26 = .agg (sumC (stS x (15 - dg))).toArray := hT 10 (by decide)
        simp only [putV, List.foldl_cons, List.foldl_nil, Act.put, List.setIfInBounds_toArray, List.set_cons_succ, List.set_cons_zero]
        rw [eB, e26]
        refine wpList_store_row rfl 26 (.tmp 8) (.tmp 26) rfl B (sumC (stS x (15 - dg))).toArray rfl rfl 26 _ hB (size32 _ (sum_size _)) ((zero32_size).trans (sum_size _).symm) (all_oneCell_toArray (oneB _)) ?_
        obtain ⟨X, hX⟩ : ∃ X, X = stS x (15 - dg) := ⟨_, rfl⟩
        rw [← hX]
        rw [← hX] at Hek
        obtain ⟨w5, hw5⟩ : ∃ v, v = W.setRow B (sumC X).toArray := ⟨_, rfl⟩
        have hb5 : Below wr.heap.size wr w5 := by rw [hw5]; exact Below.setRow hb lB _
        have hX5 : Blk w5 B 26 (sumC X).toArray := by rw [hw5]; exact setRow_heap _ _ _ _ _ _ hB
        rw [← hw5]
        clear hw5
        have hxr : Rd w5 1 (some ⟨B, 0, none⟩) 32 (sumC X) := by
          have := hX5.rd (by rw [sumC_len]; omega)
          rwa [sumC_len] at this
        have Hxr := Lib.hid hxr
        replace Happ := Lib.hid (Happ.out.below hb5 (Nat.le_refl _))
        have HB5 := Lib.hid (HBx.out.trans (hb5.mono hszr))
        have hsz5 := HB5.out.size
        clear hb5 hX5 hxr hb hT hp hd hB eB lB e26 hX
        simp only [Act.put]
        go_wp2_with (at_builtin; refine wpList_app rfl (.tmp 27) (.tmp 28) 22 rfl 5 i0 (.int .u8 0) 1 Tryd.underlying22 hi0 hz0 hz1 hz2 rfl w3.heap.size hsz5 _ _ _ rfl Happ.out (some ⟨B, 0, none⟩) 32 32 (sumC X) rfl Hxr.out (oneB _) (by unfold maxLen; omega) (by omega) ?_; intro v6 w6 happ6 hb6)
        have hb7 := HB5.out.trans hb6
        exact ⟨⟨k + 1, by go_num, by omega, by rw [Hek.out, List.map_append]; exact happ6, hb7⟩, by simp [intOf]; omega⟩
    · have he : k = 67 := by omega
      subst he
      obtain ⟨A', c', rfl, hc', hR⟩ := Happ.out.rd
      have HR := Lib.hid hR
      have HBz := Lib.hid (HB.out.trans (HBx.out.mono hsz3))
      clear hR hlt
      go_wp2_with fail
      go_ret
      exact ⟨⟨A', c', rfl, hc', HR.out⟩, HBz.out⟩
end Go.Proofs.YtfdhiilhjfbehaaDoor
