/- What neighbours have in common: the program's Common. -/
import Derived.Test.YtcelkneeedebiaaX15
namespace Go.Proofs.Ytcelkneeedebiaa
open Go.RowKit Go.Sort

/-- The first numbers are there, the others are still 0. -/
def comV (xs : List UInt8) (l : List Nat) (m i : Nat) : List Value := (List.range m).map fun t => natV (if t < i then comAt xs l t else 0)
theorem comV_len (xs : List UInt8) (l : List Nat) (m i : Nat) : (comV xs l m i).length = m := by simp [comV]
theorem comV_start (xs : List UInt8) (l : List Nat) (m : Nat) : comV xs l m 1 = List.replicate m (Value.int .i64 0) := by
  apply List.ext_getElem?
  intro t
  by_cases h : t < m
  · unfold comV
    rw [List.getElem?_map, List.getElem?_range h, List.getElem?_replicate, if_pos h, Option.map_some]
    by_cases e : t < 1
    · rw [if_pos e, show t = 0 by omega]; rfl
    · rw [if_neg e]; rfl
  · rw [List.getElem?_eq_none (by rw [comV_len]; omega), List.getElem?_eq_none (by simp; omega)]
theorem comV_at {xs : List UInt8} {l : List Nat} {m i t : Nat} (h : t < m) : ∃ v, (comV xs l m i)[t]? = some v := ⟨_, List.getElem?_eq_getElem (by rw [comV_len]; exact h)⟩
theorem comV_set {xs : List UInt8} {l : List Nat} {m i : Nat} (h : i < m) : (comV xs l m i).toArray.setIfInBounds i (natV (comAt xs l i)) = (comV xs l m (i + 1)).toArray := by
  rw [List.setIfInBounds_toArray]
  congr 1
  apply List.ext_getElem?
  intro t
  rw [List.getElem?_set]
  by_cases ht : t < m
  · by_cases e : i = t
    · subst e
      rw [if_pos rfl, if_pos (by rw [comV_len]; exact h)]
      unfold comV
      rw [List.getElem?_map, List.getElem?_range ht, Option.map_some, if_pos (by omega)]
    · rw [if_neg e]
      unfold comV
      rw [List.getElem?_map, List.getElem?_map, List.getElem?_range ht, Option.map_some, Option.map_some]
      by_cases q : t < i
      · rw [if_pos q, if_pos (by omega)]
      · rw [if_neg q, if_neg (by omega)]
  · rw [List.getElem?_eq_none (l := comV xs l m (i + 1)) (by rw [comV_len]; omega), if_neg (by omega), List.getElem?_eq_none (by rw [comV_len]; omega)]
theorem comV_end {xs : List UInt8} {l : List Nat} {m i : Nat} (hl : l.length = m) (hi : m ≤ i) : comV xs l m i = (comL xs l).map natV := by
  unfold comV comL
  rw [List.map_map, hl]
  refine List.map_congr_left fun t ht => ?_
  rw [if_pos (by have := List.mem_range.1 ht; omega)]; rfl
theorem rd_blk {w : World} {B n : Nat} {T : TypeId} {xs : List Value} (h : Blk w B T xs.toArray) (hn : xs.length = n) (hb : n ≤ 1000000) : Rd w 1 (some ⟨B, 0, none⟩) n xs := by
  refine ⟨by rw [Nat.mul_one]; exact hn, by omega, fun _ => ⟨B, 0, rfl, fun j u hu => ?_⟩⟩
  rw [Nat.zero_add, h.cell, List.getElem?_toArray]; exact hu
set_option maxRecDepth 100000 in
set_option maxHeartbeats 2000000 in
theorem Common_any (A O : Option Addr) (n m c d : Nat) (xs : List UInt8) (l : List Nat) (w : World) (hx : Rd w 1 A n (xs.map byteV)) (ho : Rd w 1 O m (l.map natV)) (hnc : n ≤ c) (hm : m ≤ 100000) (hl : ∀ i ∈ l, i < n) :
    Calls Try.prog 17 #[.slice A n c, .slice O m d] w fun e w' => (∃ (A' : Option Addr) (c' : Nat), e = .returned (.slice A' m c') ∧ m ≤ c' ∧ Rd w' 1 A' m ((comL xs l).map natV)) ∧ Below w.heap.size w w' := by
  have hxl := hx.len1
  have hol := ho.len1
  have hmk := fun w => mkInts w m (by omega)
  have Hx := Lib.hid hx
  have Ho := Lib.hid ho
  have Hol := Lib.hid hol
  have Hl := Lib.hid hl
  have Hxl := Lib.hid hxl
  clear hx ho hol hl hxl
  go_enter Try.func17, Try.ntmps17
  go_upto_region 2 with fail
  obtain ⟨w1, hw1⟩ : ∃ v, v = w.alloc (.cells (Array.replicate m (Value.int .i64 0)) 3) := ⟨_, rfl⟩
  obtain ⟨R, hR⟩ : ∃ R, R = w.heap.size := ⟨_, rfl⟩
  have hB1 : Below w.heap.size w w1 := by rw [hw1]; exact (Below.refl _ _).alloc (Nat.le_refl _) _
  have hX : Blk w1 R 3 (comV xs l m 1).toArray := by rw [hw1, hR, comV_start, List.toArray_replicate]; exact Blk.new _ _ _
  rw [← hw1, ← hR]
  have HX := Lib.hid hX
  have HB := Lib.hid hB1
  have HR := Lib.hid (show w.heap.size ≤ R by omega)
  clear hw1 hX hB1 hmk hR
  go_wp2_with fail
  go_loopw [6] (fun v6 wr => ∃ i : Nat, v6 = .int .i64 (i : Int) ∧ 1 ≤ i ∧ (i ≤ m ∨ m = 0) ∧ Blk wr R 3 (comV xs l m i).toArray ∧ Below w.heap.size w wr) (fun v6 _ => m - (intOf v6).toNat)
  case atStart => exact ⟨1, rfl, by omega, by omega, HX.out, HB.out⟩
  case round =>
    obtain ⟨i, rfl, h1i, hi, hS, hB⟩ := hrel
    have HS := Lib.hid hS
    have HBr := Lib.hid hB
    clear hS hB HX HB
    by_cases hlt : i < m
    · have d0 : decide ((i : Int) < (m : Int)) = true := decide_eq_true (by omega)
      have hq0 : l.getD i 0 < n := Hl.out (l.getD i 0) (by rw [List.getD_eq_getElem?_getD, List.getElem?_eq_getElem (by rw [Hol.out]; exact hlt)]; exact List.getElem_mem _)
      obtain ⟨bb, bo, rfl, _⟩ := Hx.out.2.2 (by omega)
      obtain ⟨ob, oo, rfl, _⟩ := Ho.out.2.2 (by omega)
      obtain ⟨j, hj⟩ : ∃ j, i = j + 1 := ⟨i - 1, by omega⟩
      have hjm : j < m := by omega
      obtain ⟨hpn, hp1⟩ := ord_at (Ho.out.below HBr.out) Hl.out hjm
      obtain ⟨hqn, hq1⟩ := ord_at (Ho.out.below HBr.out) Hl.out hlt
      obtain ⟨s, hs⟩ : ∃ s, s = comAt xs l i := ⟨_, rfl⟩
      have Hset := Lib.hid (comV_set (xs := xs) (l := l) hlt)
      obtain ⟨u0, hu0⟩ := comV_at (xs := xs) (l := l) (i := i) hlt
      have Hu0 := Lib.hid hu0
      rw [← hs] at Hset
      have hs2 : s = sharedL (xs.drop (l.getD j 0)) (xs.drop (l.getD i 0)) := by rw [hs]; unfold comAt; rw [if_neg (by omega), hj]; rfl
      generalize l.getD j 0 = p at *
      generalize l.getD i 0 = q at *
      have HSs := Lib.hid hs2
      have wj : IntKind.i64.wrap ((i : Int) - 1) = (j : Int) := by simp [IntKind.wrap, IntKind.bits, IntKind.signed]; omega
      have j0 : (0 : Int) ≤ (j : Int) := by omega
      have j1 : (j : Int) < (m : Int) := by omega
      have i0 : (0 : Int) ≤ (i : Int) := by omega
      have i1 : (i : Int) < (m : Int) := by omega
      have Hp := Lib.hid (rd_drop (Hx.out.below HBr.out) (show p ≤ n by omega))
      have Hq := Lib.hid (rd_drop (Hx.out.below HBr.out) (show q ≤ n by omega))
      have hRlt : R < wr.heap.size := HS.out.lt
      clear hs hs2 hj hq0 hu0
      go_upto_region 5 with fail
      refine wp_region_flow_tail 17 [16, 17, 18, 19, 20, 21, 22, 23, 24, 25, 26, 27, 28, 29, 30, 31, 32] [(Spec.is (.slice (some ⟨R, 0, none⟩) m m), false), (Spec.is (.int .i64 (i : Int)), false), (Spec.is (.slice (some ⟨bb, bo, none⟩) n c), false), (Spec.is (.slice (some ⟨ob, oo, none⟩) m d), false), (Spec.is (.int .i64 (i : Int)), false), (Spec.is (.int .i64 (j : Int)), false), (Spec.is (.pointer (some ⟨ob, oo + j, none⟩)), false), (Spec.is (.int .i64 (p : Int)), false), (Spec.is (.slice (some ⟨bb, bo + p, none⟩) (n - p) (c - p)), false), (Spec.is (.slice (some ⟨bb, bo, none⟩) n c), false), (Spec.is (.slice (some ⟨ob, oo, none⟩) m d), false), (Spec.is (.int .i64 (i : Int)), false), (Spec.is (.pointer (some ⟨ob, oo + i, none⟩)), false), (Spec.is (.int .i64 (q : Int)), false), (Spec.is (.slice (some ⟨bb, bo + q, none⟩) (n - q) (c - q)), false), (Spec.is (.int .i64 (s : Int)), false), (Spec.is (.pointer (some ⟨R, i, none⟩)), false)] 34 (by kernel_rfl) (List.take_append_drop _ _) rfl (by kernel_rfl) (by kernel_rfl) (by kernel_rfl) (by decide) (by kernel_rfl) (by kernel_rfl) (fun _ _ d _ _ h => by cases d <;> exact h) rfl (by decide) rfl (by decide) (by kernel_rfl) ?_ ?_
      · refine ⟨?_, ?_, ?_, ?_, ?_, ?_, ?_, ?_, ?_, ?_, ?_, ?_, ?_, ?_, ?_, ?_, ?_, trivial⟩
        · intro a W hE hb hs
          have h5 : a.eval (.tmp 5) = .slice (some ⟨R, 0, none⟩) m m := hb 5 (by decide)
          refine flow0 rfl ?_
          exact val_move _ rfl _ h5 ⟨rfl, trivial⟩
        · intro a W hE hb hs
          have h6 : a.eval (.tmp 6) = .int .i64 (i : Int) := hb 6 (by decide)
          refine flow0 rfl ?_
          exact val_move _ rfl _ h6 ⟨rfl, trivial⟩
        · intro a W hE hb hs
          have h0 : a.eval (.tmp 0) = .slice (some ⟨bb, bo, none⟩) n c := hb 0 (by decide)
          refine flow0 rfl ?_
          exact val_move _ rfl _ h0 ⟨rfl, trivial⟩
        · intro a W hE hb hs
          have h1 : a.eval (.tmp 1) = .slice (some ⟨ob, oo, none⟩) m d := hb 1 (by decide)
          refine flow0 rfl ?_
          exact val_move _ rfl _ h1 ⟨rfl, trivial⟩
        · intro a W hE hb hs
          have h6 : a.eval (.tmp 6) = .int .i64 (i : Int) := hb 6 (by decide)
          refine flow0 rfl ?_
          exact val_move _ rfl _ h6 ⟨rfl, trivial⟩
        · intro a W hE hb hs
          have h20 : a.eval (.tmp 20) = .int .i64 (i : Int) := hs 4 (by decide)
          refine flow0 rfl ?_
          intro K hK
          unfold Oper.wp execOp
          simp only [h20, BigFrame.eval_const]
          simp [go_sem, wj]
          exact hK _ _ ⟨Below.refl _ _, rfl, trivial⟩
        · intro a W hE hb hs
          have h19 : a.eval (.tmp 19) = .slice (some ⟨ob, oo, none⟩) m d := hs 3 (by decide)
          have h21 : a.eval (.tmp 21) = .int .i64 (j : Int) := hs 5 (by decide)
          refine flow0 rfl ?_
          intro K hK
          unfold Oper.wp execOp
          simp only [h19, h21]
          simp [go_sem, j1]
          exact hK _ _ ⟨Below.refl _ _, rfl, trivial⟩
        · intro a W hE hb hs
          have h22 : a.eval (.tmp 22) = .pointer (some ⟨ob, oo + j, none⟩) := hs 6 (by decide)
          refine flow0 rfl ?_
          have c1 : W.cell? ⟨ob, oo + j, none⟩ = some (.int .i64 (p : Int)) := cell_ext hE hp1
          intro K hK
          unfold Oper.wp execOp
          simp only [h22]
          simp [go_sem, c1]
          exact hK _ _ ⟨Below.refl _ _, rfl, trivial⟩
        · intro a W hE hb hs
          have h18 : a.eval (.tmp 18) = .slice (some ⟨bb, bo, none⟩) n c := hs 2 (by decide)
          have h23 : a.eval (.tmp 23) = .int .i64 (p : Int) := hs 7 (by decide)
          refine flow0 rfl ?_
          exact val_slice_lo _ _ _ rfl (some ⟨bb, bo, none⟩) n c p h18 h23 (run_sliceAt_bytes bb bo n c p hpn hnc W) ⟨rfl, trivial⟩
        · intro a W hE hb hs
          have h0 : a.eval (.tmp 0) = .slice (some ⟨bb, bo, none⟩) n c := hb 0 (by decide)
          refine flow0 rfl ?_
          exact val_move _ rfl _ h0 ⟨rfl, trivial⟩
        · intro a W hE hb hs
          have h1 : a.eval (.tmp 1) = .slice (some ⟨ob, oo, none⟩) m d := hb 1 (by decide)
          refine flow0 rfl ?_
          exact val_move _ rfl _ h1 ⟨rfl, trivial⟩
        · intro a W hE hb hs
          have h6 : a.eval (.tmp 6) = .int .i64 (i : Int) := hb 6 (by decide)
          refine flow0 rfl ?_
          exact val_move _ rfl _ h6 ⟨rfl, trivial⟩
        · intro a W hE hb hs
          have h26 : a.eval (.tmp 26) = .slice (some ⟨ob, oo, none⟩) m d := hs 10 (by decide)
          have h27 : a.eval (.tmp 27) = .int .i64 (i : Int) := hs 11 (by decide)
          refine flow0 rfl ?_
          intro K hK
          unfold Oper.wp execOp
          simp only [h26, h27]
          simp [go_sem, i1]
          exact hK _ _ ⟨Below.refl _ _, rfl, trivial⟩
        · intro a W hE hb hs
          have h28 : a.eval (.tmp 28) = .pointer (some ⟨ob, oo + i, none⟩) := hs 12 (by decide)
          refine flow0 rfl ?_
          have c1 : W.cell? ⟨ob, oo + i, none⟩ = some (.int .i64 (q : Int)) := cell_ext hE hq1
          intro K hK
          unfold Oper.wp execOp
          simp only [h28]
          simp [go_sem, c1]
          exact hK _ _ ⟨Below.refl _ _, rfl, trivial⟩
        · intro a W hE hb hs
          have h25 : a.eval (.tmp 25) = .slice (some ⟨bb, bo, none⟩) n c := hs 9 (by decide)
          have h29 : a.eval (.tmp 29) = .int .i64 (q : Int) := hs 13 (by decide)
          refine flow0 rfl ?_
          exact val_slice_lo _ _ _ rfl (some ⟨bb, bo, none⟩) n c q h25 h29 (run_sliceAt_bytes bb bo n c q hqn hnc W) ⟨rfl, trivial⟩
        · intro a W hE hb hs
          have h24 : a.eval (.tmp 24) = .slice (some ⟨bb, bo + p, none⟩) (n - p) (c - p) := hs 8 (by decide)
          have h30 : a.eval (.tmp 30) = .slice (some ⟨bb, bo + q, none⟩) (n - q) (c - q) := hs 14 (by decide)
          refine flow0 rfl ?_
          exact val_call 30 _ _ rfl (by kernel_rfl) [.slice (some ⟨bb, bo + p, none⟩) (n - p) (c - p), .slice (some ⟨bb, bo + q, none⟩) (n - q) (c - q)] (by show [a.eval (.tmp 24), a.eval (.tmp 30)] = _; rw [h24, h30]) ((Shared_any _ _ _ _ _ _ (xs.drop p) (xs.drop q) W ((Hp.out).below (ext_below hE)) ((Hq.out).below (ext_below hE))).mono (by rw [← HSs.out]; rintro e W' ⟨rfl, hb⟩; exact ⟨_, rfl, hb, rfl, trivial⟩))
        · intro a W hE hb hs
          have h16 : a.eval (.tmp 16) = .slice (some ⟨R, 0, none⟩) m m := hs 0 (by decide)
          have h17 : a.eval (.tmp 17) = .int .i64 (i : Int) := hs 1 (by decide)
          refine flow0 rfl ?_
          intro K hK
          unfold Oper.wp execOp
          simp only [h16, h17]
          simp [go_sem, i1]
          exact hK _ _ ⟨Below.refl _ _, rfl, trivial⟩
      intro f W hb hT hp hd
      have e32 : f 32 = .pointer (some ⟨R, i, none⟩) := hT 16 (by decide)
      have e31 : f 31 = .int .i64 (s : Int) := hT 15 (by decide)
      have HBW := Lib.hid (HBr.out.trans (hb.mono HBr.out.size))
      have HSW := Lib.hid (HS.out.below hb hRlt)
      have gs : W.cell? ⟨R, i, none⟩ = some u0 := by rw [HSW.out.cell, List.getElem?_toArray]; exact Hu0.out
      have frS := HSW.out.frozen i
      have HE := Lib.hid (show Blk (W.setCell ⟨R, i, none⟩ (.int .i64 (s : Int))) R 3 (comV xs l m (i + 1)).toArray from by rw [← Hset.out]; exact heap_setCell_same W R i _ 3 _ HSW.out)
      have HEB := Lib.hid (show Below w.heap.size w (W.setCell ⟨R, i, none⟩ (.int .i64 (s : Int))) from Below.setCell HBW.out HR.out _)
      simp only [putV, List.foldl_cons, List.foldl_nil, Act.put, List.setIfInBounds_toArray, List.set_cons_succ, List.set_cons_zero]
      rw [e32, e31]
      clear hb hT hp hd e32 e31 HSs hp1 hq1
      go_wp2_with fail
      exact ⟨⟨i + 1, by go_num, by omega, by omega, HE.out, HEB.out⟩, by simp [intOf]; omega⟩
    · have d0 : decide ((i : Int) < (m : Int)) = false := decide_eq_false (by omega)
      have d1 : decide (i < m) = false := decide_eq_false hlt
      have HRd := Lib.hid (show Rd wr 1 (some ⟨R, 0, none⟩) m ((comL xs l).map natV) from by rw [← comV_end Hol.out (show m ≤ i by omega)]; exact rd_blk HS.out (comV_len _ _ _ _) (by omega))
      clear hlt
      go_wp2_with fail
      go_ret
      exact ⟨⟨_, _, rfl, Nat.le_refl _, HRd.out⟩, HBr.out⟩
end Go.Proofs.Ytcelkneeedebiaa
