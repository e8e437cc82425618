/- The reference's Order. -/
import Derived.Test.YtcelkneeedebiaaX14
namespace Go.Proofs.Ytcelkneeedebiaa
open Go.RowKit Go.Sort

theorem elem25 : Try.prog.elem 25 = 3 := by kernel_rfl
theorem size3v : Try.prog.cellsOf 3 = 1 := by kernel_rfl
theorem run_ints_head (a : Option Addr) (n c m : Nat) (hm : m ≤ c) (w : World) : (Instr.slice 25 (.slice a n c) none (some (.int .i64 (m : Int))) none).run Try.prog w = .ok (.slice a m c) w := by
  obtain ⟨iE, hi', _⟩ := info_parts info3v
  rw [run_slice_h (P := Try.prog) w 25 a n c Try.underlying25 .i64 (m : Int) (by omega) (by omega), elem25, run_sizeOf w hi', size3v]
  simp only [Result.andThen_ok, sliced, Int.toNat_natCast, Nat.zero_mul, Nat.sub_zero]
  have h0 : ∀ x : Addr, x.add 0 = x := fun x => by obtain ⟨b, o, s⟩ := x; unfold Addr.add; split <;> simp_all
  cases a with
  | none => simp
  | some x => simp [h0]
theorem rd_take1 {α : Type} {f : α → Value} {w : World} {n m : Nat} {A : Option Addr} {xs : List α} (h : Rd w 1 A n (xs.map f)) (hm : m ≤ n) : Rd w 1 A m ((xs.take m).map f) := by
  have hl := h.len1
  refine ⟨by rw [List.length_map, List.length_take]; omega, by have := h.2.1; omega, fun h0 => ?_⟩
  obtain ⟨b, off, e, hc⟩ := h.2.2 (by omega)
  refine ⟨b, off, e, fun j u hu => hc j u ?_⟩
  rw [List.map_take, List.getElem?_take] at hu
  split at hu
  · exact hu
  · cases hu
theorem nats_drop {α : Type} {f : α → Value} {W : World} {A : Option Addr} {n k : Nat} {xs : List α} (h : Rd W 1 A n (xs.map f)) (hk : k ≤ n) (c : Nat) (hc : n ≤ c) : ∃ A' : Option Addr, (∀ w, (Instr.slice 25 (.slice A n c) (some (.int .i64 (k : Int))) none none).run Try.prog w = .ok (.slice A' (n - k) (c - k)) w) ∧ Rd W 1 A' (n - k) ((xs.drop k).map f) := by
  obtain ⟨iE, hi', _⟩ := info_parts info3v
  have hxl := h.len1
  refine ⟨if c = k then A else A.map fun x => x.add (k * 1), fun w => ?_, ?_⟩
  · rw [run_slice_l (P := Try.prog) w 25 A n c Try.underlying25 .i64 (k : Int) (by omega) (by omega), elem25, run_sizeOf w hi', size3v]
    simp only [Result.andThen_ok, sliced, Int.toNat_natCast]
  · refine ⟨by simp; omega, by have := h.le; omega, fun hp => ?_⟩
    obtain ⟨b, off, e, _⟩ := h.2.2 (by omega)
    subst e
    have h2 := h.part (i := k) (j := n) hk (Nat.le_refl _)
    rw [List.take_of_length_le (by omega)] at h2
    rw [if_neg (by omega)]
    have e2 : (some (⟨b, off, none⟩ : Addr)).map (fun x => x.add (k * 1)) = some ⟨b, off + k, none⟩ := by
      simp only [Option.map_some, Nat.mul_one]
      unfold Addr.add; split <;> simp_all
    rw [e2]
    exact h2.2.2 hp
theorem OrdTo.ins {b : List UInt8} {i p : Nat} {l : List Nat} (h : OrdTo b i l) (hi : i < b.length) (hp : p ≤ i) (hlo : ∀ t, t < p → lexlt (b.drop (l.getD t 0)) (b.drop i) = true) (hhi : p < i → lexlt (b.drop (l.getD p 0)) (b.drop i) = false) :
    OrdTo b (i + 1) (l.take p ++ i :: l.drop p) := ins_ord h hi (by rw [h.len]; exact hp) hlo (fun g => hhi (by rw [h.len] at g; exact g))
set_option maxRecDepth 100000 in
set_option maxHeartbeats 4000000 in
theorem ROrder_any (A : Option Addr) (n c : Nat) (xs : List UInt8) (w : World) (hx : Rd w 1 A n (xs.map byteV)) (hnc : n ≤ c) (hn : n ≤ 100000) :
    Calls Try.prog 12 #[.slice A n c] w fun e w' => (∃ (A' : Option Addr) (c' : Nat) (l : List Nat), e = .returned (.slice A' n c') ∧ n ≤ c' ∧ Rd w' 1 A' n (l.map natV) ∧ IsOrd xs l) ∧ Below w.heap.size w w' := by
  obtain ⟨i3, hi3, hz3, hs3, hy3⟩ := info_parts info3v
  have hxl := hx.len1
  have Hx := Lib.hid hx
  have Hxl := Lib.hid hxl
  clear hx hxl
  have hbs := nil25
  go_enter Try.func12, Try.ntmps12
  go_upto_region 2 with fail
  obtain ⟨w1, hw1⟩ : ∃ v, v = w.alloc (.cells #[] 3) := ⟨_, rfl⟩
  have HB := Lib.hid (show Below w.heap.size w w1 by rw [hw1]; exact (Below.refl _ _).alloc (Nat.le_refl _) _)
  rw [← hw1]
  clear hw1 hbs
  go_wp2_with fail
  go_loopw [3, 4, 5, 6] (fun v3 v4 _ _ wr => ∃ i : Nat, v4 = .int .i64 (i : Int) ∧ i ≤ n ∧ ∃ (A3 : Option Addr) (c3 : Nat) (l : List Nat), v3 = .slice A3 i c3 ∧ i ≤ c3 ∧ Rd wr 1 A3 i (l.map natV) ∧ OrdTo xs i l ∧ Below w1.heap.size w1 wr) (fun _ v4 _ _ _ => n - (intOf v4).toNat)
  case atStart => exact ⟨0, rfl, by omega, some ⟨w.heap.size, 0, none⟩, 0, [], rfl, by omega, Rd.nil _ _ _, ⟨List.Perm.refl _, List.Pairwise.nil⟩, Below.refl _ _⟩
  case round =>
    obtain ⟨i, rfl, hi, A3, c3, l, rfl, hc3, hR3, hord, hBr⟩ := hrel
    have HR3 := Lib.hid hR3
    have Hord := Lib.hid hord
    have HBr := Lib.hid hBr
    have hszr := hBr.size
    clear hR3 hord hBr
    by_cases hlt : i < n
    · have d0 : decide ((i : Int) < (n : Int)) = true := decide_eq_true (by omega)
      obtain ⟨bb, bo, rfl, _⟩ := Hx.out.2.2 (by omega)
      obtain ⟨wo, hwo⟩ : ∃ wo, wo = wr := ⟨_, rfl⟩
      subst hwo
      go_wp2_with fail
      clear d0
      go_loopw [5] (fun v5 wr => ∃ k : Nat, v5 = .int .i64 (k : Int) ∧ k ≤ i ∧ (∀ t, t < k → lexlt (xs.drop (l.getD t 0)) (xs.drop i) = true) ∧ Below wo.heap.size wo wr) (fun v5 _ => i - (intOf v5).toNat)
      case atStart => exact ⟨0, rfl, by omega, fun t h => by omega, Below.refl _ _⟩
      case round =>
        obtain ⟨k, rfl, hk, hlo, hBk⟩ := hrel
        have Hlo := Lib.hid hlo
        have HBk := Lib.hid hBk
        have hszk := hBk.size
        have HBw := Lib.hid (HB.out.trans ((HBr.out.trans (hBk.mono HBr.out.size)).mono HB.out.size))
        clear hlo hBk
        by_cases hki : k < i
        · have dk : decide ((k : Int) < (i : Int)) = true := decide_eq_true (by omega)
          have dk2 : decide (k < i) = true := decide_eq_true hki
          obtain ⟨ob, oo, eA3, _⟩ := HR3.out.2.2 (by omega)
          have hRk := HR3.out.below HBk.out
          rw [eA3] at hRk
          obtain ⟨hpn, hp1⟩ := ord_at (n := n) hRk (fun j hj => by have := Hord.out.mem.1 hj; omega) hki
          have HLe := Lib.hid (show ∀ t, t < k → lexlt (xs.drop (l.getD t 0)) (xs.drop i) = true from Hlo.out)
          obtain ⟨p, hp⟩ : ∃ p, p = l.getD k 0 := ⟨_, rfl⟩
          rw [← hp] at hpn hp1
          have k1 : (k : Int) < (i : Int) := by omega
          have k0 : (0 : Int) ≤ (k : Int) := by omega
          have Hp := Lib.hid (rd_drop (Hx.out.below HBw.out) (show p ≤ n by omega))
          have Hi := Lib.hid (rd_drop (Hx.out.below HBw.out) (show i ≤ n by omega))
          have HPe := Lib.hid hp
          clear hp hRk
          cases hS : lexlt (xs.drop p) (xs.drop i) with
          | true =>
            have HS := Lib.hid hS
            have Hlo2 := Lib.hid (show ∀ t, t < k + 1 → lexlt (xs.drop (l.getD t 0)) (xs.drop i) = true from fun t ht => by
              rcases (show t < k ∨ t = k by omega) with h | rfl
              · exact Hlo.out t h
              · rw [← HPe.out]; exact hS)
            clear hS
            go_upto_region 6 with fail
            refine wp_region_flowF [14, 15, 16, 17, 18, 19, 20, 21, 22, 23, 24, 25, 26, 27, 28, 29] [(Spec.is (.int .i64 (k : Int)), false), (Spec.is (.slice A3 i c3), false), (Spec.is (.int .i64 (i : Int)), false), (Spec.is (.bool true), false), (Spec.is (.bool true), false), (Spec.is (.slice (some ⟨bb, bo, none⟩) n c), false), (Spec.is (.slice A3 i c3), false), (Spec.is (.int .i64 (k : Int)), false), (Spec.is (.pointer (some ⟨ob, oo + k, none⟩)), false), (Spec.is (.int .i64 (p : Int)), false), (Spec.is (.slice (some ⟨bb, bo + p, none⟩) (n - p) (c - p)), false), (Spec.is (.slice (some ⟨bb, bo, none⟩) n c), false), (Spec.is (.int .i64 (i : Int)), false), (Spec.is (.slice (some ⟨bb, bo + i, none⟩) (n - i) (c - i)), false), (Spec.is (.bool true), false), (Spec.is (.bool true), false)] 47 (by kernel_rfl) rfl (by decide) rfl (by decide) (by kernel_rfl) ?_ ?_
            · refine ⟨?_, ?_, ?_, ?_, ?_, ?_, ?_, ?_, ?_, ?_, ?_, ?_, ?_, ?_, ?_, ?_, trivial⟩
              · intro a W hE hb hs
                have h5 : a.eval (.tmp 5) = .int .i64 (k : Int) := hb 5 (by decide)
                refine flow0 rfl ?_
                exact val_move _ rfl _ h5 ⟨rfl, trivial⟩
              · intro a W hE hb hs
                have h3 : a.eval (.tmp 3) = .slice A3 i c3 := hb 3 (by decide)
                refine flow0 rfl ?_
                exact val_move _ rfl _ h3 ⟨rfl, trivial⟩
              · intro a W hE hb hs
                have h15 : a.eval (.tmp 15) = .slice A3 i c3 := hs 1 (by decide)
                refine flow0 rfl ?_
                exact val_len _ 25 3 rfl Try.underlying25 _ _ _ h15 ⟨rfl, trivial⟩
              · intro a W hE hb hs
                have h14 : a.eval (.tmp 14) = .int .i64 (k : Int) := hs 0 (by decide)
                have h16 : a.eval (.tmp 16) = .int .i64 (i : Int) := hs 2 (by decide)
                refine flow0 rfl ?_
                intro K hK
                unfold Oper.wp execOp
                simp only [h14, h16]
                simp [go_sem, dk2]
                exact hK _ _ ⟨Below.refl _ _, rfl, trivial⟩
              · intro a W hE hb hs
                have h17 : a.eval (.tmp 17) = .bool true := hs 3 (by decide)
                refine flow0 rfl ?_
                exact val_move _ rfl _ h17 ⟨rfl, trivial⟩
              · intro a W hE hb hs
                have h0 : a.eval (.tmp 0) = .slice (some ⟨bb, bo, none⟩) n c := hb 0 (by decide)
                have h18 : a.eval (.tmp 18) = .bool true := hs 4 (by decide)
                refine flowY rfl rfl h18 ?_
                exact val_move _ rfl _ h0 ⟨rfl, trivial⟩
              · intro a W hE hb hs
                have h3 : a.eval (.tmp 3) = .slice A3 i c3 := hb 3 (by decide)
                have h18 : a.eval (.tmp 18) = .bool true := hs 4 (by decide)
                refine flowY rfl rfl h18 ?_
                exact val_move _ rfl _ h3 ⟨rfl, trivial⟩
              · intro a W hE hb hs
                have h5 : a.eval (.tmp 5) = .int .i64 (k : Int) := hb 5 (by decide)
                have h18 : a.eval (.tmp 18) = .bool true := hs 4 (by decide)
                refine flowY rfl rfl h18 ?_
                exact val_move _ rfl _ h5 ⟨rfl, trivial⟩
              · intro a W hE hb hs
                have h20 : a.eval (.tmp 20) = .slice A3 i c3 := hs 6 (by decide)
                have h21 : a.eval (.tmp 21) = .int .i64 (k : Int) := hs 7 (by decide)
                have h18 : a.eval (.tmp 18) = .bool true := hs 4 (by decide)
                refine flowY rfl rfl h18 ?_
                intro K hK
                unfold Oper.wp execOp
                simp only [h20, h21]
                simp [go_sem, eA3, k1]
                exact hK _ _ ⟨Below.refl _ _, rfl, trivial⟩
              · intro a W hE hb hs
                have h22 : a.eval (.tmp 22) = .pointer (some ⟨ob, oo + k, none⟩) := hs 8 (by decide)
                have h18 : a.eval (.tmp 18) = .bool true := hs 4 (by decide)
                refine flowY rfl rfl h18 ?_
                have c1 : W.cell? ⟨ob, oo + k, none⟩ = some (.int .i64 (p : Int)) := cell_ext hE hp1
                intro K hK
                unfold Oper.wp execOp
                simp only [h22]
                simp [go_sem, c1]
                exact hK _ _ ⟨Below.refl _ _, rfl, trivial⟩
              · intro a W hE hb hs
                have h19 : a.eval (.tmp 19) = .slice (some ⟨bb, bo, none⟩) n c := hs 5 (by decide)
                have h23 : a.eval (.tmp 23) = .int .i64 (p : Int) := hs 9 (by decide)
                have h18 : a.eval (.tmp 18) = .bool true := hs 4 (by decide)
                refine flowY rfl rfl h18 ?_
                exact val_slice_lo _ _ _ rfl (some ⟨bb, bo, none⟩) n c p h19 h23 (run_sliceAt_bytes bb bo n c p hpn hnc W) ⟨rfl, trivial⟩
              · intro a W hE hb hs
                have h0 : a.eval (.tmp 0) = .slice (some ⟨bb, bo, none⟩) n c := hb 0 (by decide)
                have h18 : a.eval (.tmp 18) = .bool true := hs 4 (by decide)
                refine flowY rfl rfl h18 ?_
                exact val_move _ rfl _ h0 ⟨rfl, trivial⟩
              · intro a W hE hb hs
                have h4 : a.eval (.tmp 4) = .int .i64 (i : Int) := hb 4 (by decide)
                have h18 : a.eval (.tmp 18) = .bool true := hs 4 (by decide)
                refine flowY rfl rfl h18 ?_
                exact val_move _ rfl _ h4 ⟨rfl, trivial⟩
              · intro a W hE hb hs
                have h25 : a.eval (.tmp 25) = .slice (some ⟨bb, bo, none⟩) n c := hs 11 (by decide)
                have h26 : a.eval (.tmp 26) = .int .i64 (i : Int) := hs 12 (by decide)
                have h18 : a.eval (.tmp 18) = .bool true := hs 4 (by decide)
                refine flowY rfl rfl h18 ?_
                exact val_slice_lo _ _ _ rfl (some ⟨bb, bo, none⟩) n c i h25 h26 (run_sliceAt_bytes bb bo n c i hlt hnc W) ⟨rfl, trivial⟩
              · intro a W hE hb hs
                have h24 : a.eval (.tmp 24) = .slice (some ⟨bb, bo + p, none⟩) (n - p) (c - p) := hs 10 (by decide)
                have h27 : a.eval (.tmp 27) = .slice (some ⟨bb, bo + i, none⟩) (n - i) (c - i) := hs 13 (by decide)
                have h18 : a.eval (.tmp 18) = .bool true := hs 4 (by decide)
                refine flowY rfl rfl h18 ?_
                exact val_call 20 _ _ rfl (by kernel_rfl) [.slice (some ⟨bb, bo + p, none⟩) (n - p) (c - p), .slice (some ⟨bb, bo + i, none⟩) (n - i) (c - i)] (by show [a.eval (.tmp 24), a.eval (.tmp 27)] = _; rw [h24, h27]) ((RLess_any _ _ _ _ _ _ (xs.drop p) (xs.drop i) W ((Hp.out).below (ext_below hE)) ((Hi.out).below (ext_below hE))).mono (by rw [HS.out]; rintro e W' ⟨rfl, hb⟩; exact ⟨_, rfl, hb, rfl, trivial⟩))
              · intro a W hE hb hs
                have h18 : a.eval (.tmp 18) = .bool true := hs 4 (by decide)
                have h28 : a.eval (.tmp 28) = .bool true := hs 14 (by decide)
                refine flow0 rfl ?_
                exact val_pick _ _ _ rfl true h18 _ (by rw [if_pos rfl]; exact h28) ⟨rfl, trivial⟩
            intro f W hb hT hp hd
            have e29 : f 29 = .bool true := hT 15 (by decide)
            have HbW := Lib.hid (HBk.out.trans (hb.mono hszk))
            simp only [putV, List.foldl_cons, List.foldl_nil, Act.put, List.setIfInBounds_toArray, List.set_cons_succ, List.set_cons_zero, Exit.then]
            rw [e29]
            clear hb hT hp hd e29 HS
            go_wp2_with fail
            exact ⟨⟨k + 1, by go_num, by omega, Hlo2.out, HbW.out⟩, by simp [intOf]; omega⟩
          | false =>
            have HS := Lib.hid hS
            have Hhi := Lib.hid (show k < i → lexlt (xs.drop (l.getD k 0)) (xs.drop i) = false from fun _ => by rw [← HPe.out]; exact hS)
            clear hS
            go_upto_region 6 with fail
            refine wp_region_flowF [14, 15, 16, 17, 18, 19, 20, 21, 22, 23, 24, 25, 26, 27, 28, 29] [(Spec.is (.int .i64 (k : Int)), false), (Spec.is (.slice A3 i c3), false), (Spec.is (.int .i64 (i : Int)), false), (Spec.is (.bool true), false), (Spec.is (.bool true), false), (Spec.is (.slice (some ⟨bb, bo, none⟩) n c), false), (Spec.is (.slice A3 i c3), false), (Spec.is (.int .i64 (k : Int)), false), (Spec.is (.pointer (some ⟨ob, oo + k, none⟩)), false), (Spec.is (.int .i64 (p : Int)), false), (Spec.is (.slice (some ⟨bb, bo + p, none⟩) (n - p) (c - p)), false), (Spec.is (.slice (some ⟨bb, bo, none⟩) n c), false), (Spec.is (.int .i64 (i : Int)), false), (Spec.is (.slice (some ⟨bb, bo + i, none⟩) (n - i) (c - i)), false), (Spec.is (.bool false), false), (Spec.is (.bool false), false)] 47 (by kernel_rfl) rfl (by decide) rfl (by decide) (by kernel_rfl) ?_ ?_
            · refine ⟨?_, ?_, ?_, ?_, ?_, ?_, ?_, ?_, ?_, ?_, ?_, ?_, ?_, ?_, ?_, ?_, trivial⟩
              · intro a W hE hb hs
                have h5 : a.eval (.tmp 5) = .int .i64 (k : Int) := hb 5 (by decide)
                refine flow0 rfl ?_
                exact val_move _ rfl _ h5 ⟨rfl, trivial⟩
              · intro a W hE hb hs
                have h3 : a.eval (.tmp 3) = .slice A3 i c3 := hb 3 (by decide)
                refine flow0 rfl ?_
                exact val_move _ rfl _ h3 ⟨rfl, trivial⟩
              · intro a W hE hb hs
                have h15 : a.eval (.tmp 15) = .slice A3 i c3 := hs 1 (by decide)
                refine flow0 rfl ?_
                exact val_len _ 25 3 rfl Try.underlying25 _ _ _ h15 ⟨rfl, trivial⟩
              · intro a W hE hb hs
                have h14 : a.eval (.tmp 14) = .int .i64 (k : Int) := hs 0 (by decide)
                have h16 : a.eval (.tmp 16) = .int .i64 (i : Int) := hs 2 (by decide)
                refine flow0 rfl ?_
                intro K hK
                unfold Oper.wp execOp
                simp only [h14, h16]
                simp [go_sem, dk2]
                exact hK _ _ ⟨Below.refl _ _, rfl, trivial⟩
              · intro a W hE hb hs
                have h17 : a.eval (.tmp 17) = .bool true := hs 3 (by decide)
                refine flow0 rfl ?_
                exact val_move _ rfl _ h17 ⟨rfl, trivial⟩
              · intro a W hE hb hs
                have h0 : a.eval (.tmp 0) = .slice (some ⟨bb, bo, none⟩) n c := hb 0 (by decide)
                have h18 : a.eval (.tmp 18) = .bool true := hs 4 (by decide)
                refine flowY rfl rfl h18 ?_
                exact val_move _ rfl _ h0 ⟨rfl, trivial⟩
              · intro a W hE hb hs
                have h3 : a.eval (.tmp 3) = .slice A3 i c3 := hb 3 (by decide)
                have h18 : a.eval (.tmp 18) = .bool true := hs 4 (by decide)
                refine flowY rfl rfl h18 ?_
                exact val_move _ rfl _ h3 ⟨rfl, trivial⟩
              · intro a W hE hb hs
                have h5 : a.eval (.tmp 5) = .int .i64 (k : Int) := hb 5 (by decide)
                have h18 : a.eval (.tmp 18) = .bool true := hs 4 (by decide)
                refine flowY rfl rfl h18 ?_
                exact val_move _ rfl _ h5 ⟨rfl, trivial⟩
              · intro a W hE hb hs
                have h20 : a.eval (.tmp 20) = .slice A3 i c3 := hs 6 (by decide)
                have h21 : a.eval (.tmp 21) = .int .i64 (k : Int) := hs 7 (by decide)
                have h18 : a.eval (.tmp 18) = .bool true := hs 4 (by decide)
                refine flowY rfl rfl h18 ?_
                intro K hK
                unfold Oper.wp execOp
                simp only [h20, h21]
                simp [go_sem, eA3, k1]
                exact hK _ _ ⟨Below.refl _ _, rfl, trivial⟩
              · intro a W hE hb hs
                have h22 : a.eval (.tmp 22) = .pointer (some ⟨ob, oo + k, none⟩) := hs 8 (by decide)
                have h18 : a.eval (.tmp 18) = .bool true := hs 4 (by decide)
                refine flowY rfl rfl h18 ?_
                have c1 : W.cell? ⟨ob, oo + k, none⟩ = some (.int .i64 (p : Int)) := cell_ext hE hp1
                intro K hK
                unfold Oper.wp execOp
                simp only [h22]
                simp [go_sem, c1]
                exact hK _ _ ⟨Below.refl _ _, rfl, trivial⟩
              · intro a W hE hb hs
                have h19 : a.eval (.tmp 19) = .slice (some ⟨bb, bo, none⟩) n c := hs 5 (by decide)
                have h23 : a.eval (.tmp 23) = .int .i64 (p : Int) := hs 9 (by decide)
                have h18 : a.eval (.tmp 18) = .bool true := hs 4 (by decide)
                refine flowY rfl rfl h18 ?_
                exact val_slice_lo _ _ _ rfl (some ⟨bb, bo, none⟩) n c p h19 h23 (run_sliceAt_bytes bb bo n c p hpn hnc W) ⟨rfl, trivial⟩
              · intro a W hE hb hs
                have h0 : a.eval (.tmp 0) = .slice (some ⟨bb, bo, none⟩) n c := hb 0 (by decide)
                have h18 : a.eval (.tmp 18) = .bool true := hs 4 (by decide)
                refine flowY rfl rfl h18 ?_
                exact val_move _ rfl _ h0 ⟨rfl, trivial⟩
              · intro a W hE hb hs
                have h4 : a.eval (.tmp 4) = .int .i64 (i : Int) := hb 4 (by decide)
                have h18 : a.eval (.tmp 18) = .bool true := hs 4 (by decide)
                refine flowY rfl rfl h18 ?_
                exact val_move _ rfl _ h4 ⟨rfl, trivial⟩
              · intro a W hE hb hs
                have h25 : a.eval (.tmp 25) = .slice (some ⟨bb, bo, none⟩) n c := hs 11 (by decide)
                have h26 : a.eval (.tmp 26) = .int .i64 (i : Int) := hs 12 (by decide)
                have h18 : a.eval (.tmp 18) = .bool true := hs 4 (by decide)
                refine flowY rfl rfl h18 ?_
                exact val_slice_lo _ _ _ rfl (some ⟨bb, bo, none⟩) n c i h25 h26 (run_sliceAt_bytes bb bo n c i hlt hnc W) ⟨rfl, trivial⟩
              · intro a W hE hb hs
                have h24 : a.eval (.tmp 24) = .slice (some ⟨bb, bo + p, none⟩) (n - p) (c - p) := hs 10 (by decide)
                have h27 : a.eval (.tmp 27) = .slice (some ⟨bb, bo + i, none⟩) (n - i) (c - i) := hs 13 (by decide)
                have h18 : a.eval (.tmp 18) = .bool true := hs 4 (by decide)
                refine flowY rfl rfl h18 ?_
                exact val_call 20 _ _ rfl (by kernel_rfl) [.slice (some ⟨bb, bo + p, none⟩) (n - p) (c - p), .slice (some ⟨bb, bo + i, none⟩) (n - i) (c - i)] (by show [a.eval (.tmp 24), a.eval (.tmp 27)] = _; rw [h24, h27]) ((RLess_any _ _ _ _ _ _ (xs.drop p) (xs.drop i) W ((Hp.out).below (ext_below hE)) ((Hi.out).below (ext_below hE))).mono (by rw [HS.out]; rintro e W' ⟨rfl, hb⟩; exact ⟨_, rfl, hb, rfl, trivial⟩))
              · intro a W hE hb hs
                have h18 : a.eval (.tmp 18) = .bool true := hs 4 (by decide)
                have h28 : a.eval (.tmp 28) = .bool false := hs 14 (by decide)
                refine flow0 rfl ?_
                exact val_pick _ _ _ rfl true h18 _ (by rw [if_pos rfl]; exact h28) ⟨rfl, trivial⟩
            intro f W hb hT hp hd
            have e29 : f 29 = .bool false := hT 15 (by decide)
            have HBW := Lib.hid (HBr.out.trans ((HBk.out.trans (hb.mono hszk)).mono HBr.out.size))
            have HRo := Lib.hid (HR3.out.below (HBk.out.trans (hb.mono hszk)))
            simp only [putV, List.foldl_cons, List.foldl_nil, Act.put, List.setIfInBounds_toArray, List.set_cons_succ, List.set_cons_zero, Exit.then]
            rw [e29]
            clear hb hT hp hd e29 HS hp1 dk dk2 k1 k0 eA3
            have hin : i < xs.length := by rw [Hxl.out]; exact hlt
            obtain ⟨wx, hwx⟩ : ∃ v, v = W := ⟨_, rfl⟩
            rw [← hwx] at HRo HBW ⊢
            have hszx := HBW.out.size
            have hap0 : App (wx.alloc (.cells #[] 3)) wx.heap.size 3 (.slice (some ⟨wx.heap.size, 0, none⟩) 0 0) 0 [] := .inl ⟨rfl, rfl, _, rfl⟩
            have Hap0 := Lib.hid hap0
            have HBa := Lib.hid (show Below wx.heap.size wx (wx.alloc (.cells #[] 3)) from (Below.refl _ _).alloc (Nat.le_refl _) _)
            have Hrt := Lib.hid ((rd_take1 HRo.out hk).below HBa.out)
            clear hwx hap0
            have hbs := nil25
            have hsh := run_ints_head A3 i c3 k (by omega)
            go_upto_region 9 with (at_builtin; go_loud (refine wpList_app rfl (.tmp 32) (.tmp 35) 25 rfl 3 i3 (.int .i64 0) 8 Try.underlying25 hi3 hz3 hs3 hy3 rfl wx.heap.size (by simp) _ 0 _ rfl Hap0.out A3 k c3 ((l.take k).map natV) rfl Hrt.out (fun u hu => by obtain ⟨a, _, rfl⟩ := List.mem_map.1 hu; rfl) (by unfold maxLen; omega) (by omega) ?_; intro v6 w6 happ6 hb6))
            have HB6 := Lib.hid (HBa.out.trans hb6)
            have Hap6 := Lib.hid happ6
            have hsz6 := HB6.out.size
            clear happ6 hb6 hbs hsh Hrt HBa Hap0
            go_upto_region 10 with (at_builtin; go_loud (refine wpList_app rfl (.tmp 37) (.tmp 39) 25 rfl 3 i3 (.int .i64 0) 8 Try.underlying25 hi3 hz3 hs3 hy3 rfl wx.heap.size (by simp; omega) _ (0 + k) _ rfl (Hap6.out.litE _) (some ⟨w6.heap.size, 0, none⟩) 1 1 [natV i] rfl (lit_rdE _ _ _) (by simp [natV, Value.oneCell']) (by unfold maxLen; omega) (by omega) ?_; intro v7 w7 happ7 hb7))
            have HB7 := Lib.hid ((HB6.out.alloc (Nat.le_trans (Nat.le_refl _) hsz6) (.cells #[natV i] 3)).trans hb7)
            have Hap7 := Lib.hid happ7
            have hsz7 := HB7.out.size
            clear happ7 hb7 Hap6
            have HR7 := Lib.hid (HRo.out.below HB7.out)
            obtain ⟨A8, hA8, hrd8⟩ := nats_drop HR7.out hk c3 hc3
            have Hrd8 := Lib.hid hrd8
            clear hrd8
            go_wp2_with (at_builtin; go_loud (refine wpList_app rfl (.tmp 41) (.tmp 44) 25 rfl 3 i3 (.int .i64 0) 8 Try.underlying25 hi3 hz3 hs3 hy3 rfl wx.heap.size hsz7 _ (0 + k + 1) _ rfl Hap7.out A8 (i - k) (c3 - k) ((l.drop k).map natV) rfl Hrd8.out (fun u hu => by obtain ⟨a, _, rfl⟩ := List.mem_map.1 hu; rfl) (by unfold maxLen; omega) (by omega) ?_; intro v8 w8 happ8 hb8))
            obtain ⟨A9, c9, rfl, hc9, hR9⟩ := happ8.rd
            have HB9 := Lib.hid (HBW.out.trans ((HB7.out.trans hb8).mono hszx))
            have HR9 := Lib.hid (show Rd w8 1 A9 (i + 1) ((l.take k ++ i :: l.drop k).map natV) from by
              have : 0 + k + 1 + (i - k) = i + 1 := by omega
              rw [← this]; simpa using hR9)
            exact ⟨⟨i + 1, by go_num, by omega, A9, c9, _, (by rw [show 0 + k + 1 + (i - k) = i + 1 by omega]), (by omega), HR9.out, Hord.out.ins (by omega) hk Hlo.out Hhi.out, HB9.out⟩, by simp [intOf]; omega⟩
        · have dk : decide ((k : Int) < (i : Int)) = false := decide_eq_false (by omega)
          have dk2 : decide (k < i) = false := decide_eq_false hki
          have Hhi := Lib.hid (show k < i → lexlt (xs.drop (l.getD k 0)) (xs.drop i) = false from fun h => absurd h hki)
          go_upto_region 6 with fail
          refine wp_region_flowF [14, 15, 16, 17, 18, 19, 20, 21, 22, 23, 24, 25, 26, 27, 28, 29] [(Spec.is (.int .i64 (k : Int)), false), (Spec.is (.slice A3 i c3), false), (Spec.is (.int .i64 (i : Int)), false), (Spec.is (.bool false), false), (Spec.is (.bool false), false), (Spec.any, false), (Spec.any, false), (Spec.any, false), (Spec.any, false), (Spec.any, false), (Spec.any, false), (Spec.any, false), (Spec.any, false), (Spec.any, false), (Spec.any, false), (Spec.is (.bool false), false)] 47 (by kernel_rfl) rfl (by decide) rfl (by decide) (by kernel_rfl) ?_ ?_
          · refine ⟨?_, ?_, ?_, ?_, ?_, ?_, ?_, ?_, ?_, ?_, ?_, ?_, ?_, ?_, ?_, ?_, trivial⟩
            · intro a W hE hb hs
              have h5 : a.eval (.tmp 5) = .int .i64 (k : Int) := hb 5 (by decide)
              refine flow0 rfl ?_
              exact val_move _ rfl _ h5 ⟨rfl, trivial⟩
            · intro a W hE hb hs
              have h3 : a.eval (.tmp 3) = .slice A3 i c3 := hb 3 (by decide)
              refine flow0 rfl ?_
              exact val_move _ rfl _ h3 ⟨rfl, trivial⟩
            · intro a W hE hb hs
              have h15 : a.eval (.tmp 15) = .slice A3 i c3 := hs 1 (by decide)
              refine flow0 rfl ?_
              exact val_len _ 25 3 rfl Try.underlying25 _ _ _ h15 ⟨rfl, trivial⟩
            · intro a W hE hb hs
              have h14 : a.eval (.tmp 14) = .int .i64 (k : Int) := hs 0 (by decide)
              have h16 : a.eval (.tmp 16) = .int .i64 (i : Int) := hs 2 (by decide)
              refine flow0 rfl ?_
              intro K hK
              unfold Oper.wp execOp
              simp only [h14, h16]
              simp [go_sem, dk2]
              exact hK _ _ ⟨Below.refl _ _, rfl, trivial⟩
            · intro a W hE hb hs
              have h17 : a.eval (.tmp 17) = .bool false := hs 3 (by decide)
              refine flow0 rfl ?_
              exact val_move _ rfl _ h17 ⟨rfl, trivial⟩
            · intro a W hE hb hs
              have h18 : a.eval (.tmp 18) = .bool false := hs 4 (by decide)
              exact flowN rfl rfl h18 (by decide) ⟨trivial, rfl⟩
            · intro a W hE hb hs
              have h18 : a.eval (.tmp 18) = .bool false := hs 4 (by decide)
              exact flowN rfl rfl h18 (by decide) ⟨trivial, rfl⟩
            · intro a W hE hb hs
              have h18 : a.eval (.tmp 18) = .bool false := hs 4 (by decide)
              exact flowN rfl rfl h18 (by decide) ⟨trivial, rfl⟩
            · intro a W hE hb hs
              have h18 : a.eval (.tmp 18) = .bool false := hs 4 (by decide)
              exact flowN rfl rfl h18 (by decide) ⟨trivial, rfl⟩
            · intro a W hE hb hs
              have h18 : a.eval (.tmp 18) = .bool false := hs 4 (by decide)
              exact flowN rfl rfl h18 (by decide) ⟨trivial, rfl⟩
            · intro a W hE hb hs
              have h18 : a.eval (.tmp 18) = .bool false := hs 4 (by decide)
              exact flowN rfl rfl h18 (by decide) ⟨trivial, rfl⟩
            · intro a W hE hb hs
              have h18 : a.eval (.tmp 18) = .bool false := hs 4 (by decide)
              exact flowN rfl rfl h18 (by decide) ⟨trivial, rfl⟩
            · intro a W hE hb hs
              have h18 : a.eval (.tmp 18) = .bool false := hs 4 (by decide)
              exact flowN rfl rfl h18 (by decide) ⟨trivial, rfl⟩
            · intro a W hE hb hs
              have h18 : a.eval (.tmp 18) = .bool false := hs 4 (by decide)
              exact flowN rfl rfl h18 (by decide) ⟨trivial, rfl⟩
            · intro a W hE hb hs
              have h18 : a.eval (.tmp 18) = .bool false := hs 4 (by decide)
              exact flowN rfl rfl h18 (by decide) ⟨trivial, rfl⟩
            · intro a W hE hb hs
              have h18 : a.eval (.tmp 18) = .bool false := hs 4 (by decide)
              refine flow0 rfl ?_
              exact val_pick _ _ _ rfl false h18 _ (by rw [if_neg (by decide)]; rfl) ⟨rfl, trivial⟩
          intro f W hb hT hp hd
          have e29 : f 29 = .bool false := hT 15 (by decide)
          have HBW := Lib.hid (HBr.out.trans ((HBk.out.trans (hb.mono hszk)).mono HBr.out.size))
          have HRo := Lib.hid (HR3.out.below (HBk.out.trans (hb.mono hszk)))
          simp only [putV, List.foldl_cons, List.foldl_nil, Act.put, List.setIfInBounds_toArray, List.set_cons_succ, List.set_cons_zero, Exit.then]
          rw [e29]
          clear hb hT hp hd e29 dk dk2
          have hin : i < xs.length := by rw [Hxl.out]; exact hlt
          obtain ⟨wx, hwx⟩ : ∃ v, v = W := ⟨_, rfl⟩
          rw [← hwx] at HRo HBW ⊢
          have hszx := HBW.out.size
          have hap0 : App (wx.alloc (.cells #[] 3)) wx.heap.size 3 (.slice (some ⟨wx.heap.size, 0, none⟩) 0 0) 0 [] := .inl ⟨rfl, rfl, _, rfl⟩
          have Hap0 := Lib.hid hap0
          have HBa := Lib.hid (show Below wx.heap.size wx (wx.alloc (.cells #[] 3)) from (Below.refl _ _).alloc (Nat.le_refl _) _)
          have Hrt := Lib.hid ((rd_take1 HRo.out hk).below HBa.out)
          clear hwx hap0
          have hbs := nil25
          have hsh := run_ints_head A3 i c3 k (by omega)
          go_upto_region 9 with (at_builtin; go_loud (refine wpList_app rfl (.tmp 32) (.tmp 35) 25 rfl 3 i3 (.int .i64 0) 8 Try.underlying25 hi3 hz3 hs3 hy3 rfl wx.heap.size (by simp) _ 0 _ rfl Hap0.out A3 k c3 ((l.take k).map natV) rfl Hrt.out (fun u hu => by obtain ⟨a, _, rfl⟩ := List.mem_map.1 hu; rfl) (by unfold maxLen; omega) (by omega) ?_; intro v6 w6 happ6 hb6))
          have HB6 := Lib.hid (HBa.out.trans hb6)
          have Hap6 := Lib.hid happ6
          have hsz6 := HB6.out.size
          clear happ6 hb6 hbs hsh Hrt HBa Hap0
          go_upto_region 10 with (at_builtin; go_loud (refine wpList_app rfl (.tmp 37) (.tmp 39) 25 rfl 3 i3 (.int .i64 0) 8 Try.underlying25 hi3 hz3 hs3 hy3 rfl wx.heap.size (by simp; omega) _ (0 + k) _ rfl (Hap6.out.litE _) (some ⟨w6.heap.size, 0, none⟩) 1 1 [natV i] rfl (lit_rdE _ _ _) (by simp [natV, Value.oneCell']) (by unfold maxLen; omega) (by omega) ?_; intro v7 w7 happ7 hb7))
          have HB7 := Lib.hid ((HB6.out.alloc (Nat.le_trans (Nat.le_refl _) hsz6) (.cells #[natV i] 3)).trans hb7)
          have Hap7 := Lib.hid happ7
          have hsz7 := HB7.out.size
          clear happ7 hb7 Hap6
          have HR7 := Lib.hid (HRo.out.below HB7.out)
          obtain ⟨A8, hA8, hrd8⟩ := nats_drop HR7.out hk c3 hc3
          have Hrd8 := Lib.hid hrd8
          clear hrd8
          go_wp2_with (at_builtin; go_loud (refine wpList_app rfl (.tmp 41) (.tmp 44) 25 rfl 3 i3 (.int .i64 0) 8 Try.underlying25 hi3 hz3 hs3 hy3 rfl wx.heap.size hsz7 _ (0 + k + 1) _ rfl Hap7.out A8 (i - k) (c3 - k) ((l.drop k).map natV) rfl Hrd8.out (fun u hu => by obtain ⟨a, _, rfl⟩ := List.mem_map.1 hu; rfl) (by unfold maxLen; omega) (by omega) ?_; intro v8 w8 happ8 hb8))
          obtain ⟨A9, c9, rfl, hc9, hR9⟩ := happ8.rd
          have HB9 := Lib.hid (HBW.out.trans ((HB7.out.trans hb8).mono hszx))
          have HR9 := Lib.hid (show Rd w8 1 A9 (i + 1) ((l.take k ++ i :: l.drop k).map natV) from by
            have : 0 + k + 1 + (i - k) = i + 1 := by omega
            rw [← this]; simpa using hR9)
          exact ⟨⟨i + 1, by go_num, by omega, A9, c9, _, (by rw [show 0 + k + 1 + (i - k) = i + 1 by omega]), (by omega), HR9.out, Hord.out.ins (by omega) hk Hlo.out Hhi.out, HB9.out⟩, by simp [intOf]; omega⟩
    · have he : i = n := by omega
      have HR := Lib.hid (show Rd wr 1 A3 n (l.map natV) from he ▸ HR3.out)
      have HO := Lib.hid (show IsOrd xs l from by have := Hord.out; rw [he, ← Hxl.out] at this; exact this.done)
      have HBx := Lib.hid (HB.out.trans (HBr.out.mono HB.out.size))
      have hcm : n ≤ c3 := by omega
      have d0 : decide ((i : Int) < (n : Int)) = false := decide_eq_false (by omega)
      have d1 : decide (i < n) = false := decide_eq_false hlt
      subst he
      clear hlt
      go_wp2_with fail
      go_ret
      exact ⟨⟨A3, c3, l, rfl, hcm, HR.out, HO.out⟩, HBx.out⟩
end Go.Proofs.Ytcelkneeedebiaa
