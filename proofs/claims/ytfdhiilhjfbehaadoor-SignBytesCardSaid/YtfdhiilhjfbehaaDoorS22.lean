/- Parts of the laws: the reference's Secret. -/
import Derived.Test.YtfdhiilhjfbehaaDoorS21
namespace Go.Proofs.YtfdhiilhjfbehaaDoor
open Go.RowKit Go.Sort

def secS (bs : List UInt8) (a b : UInt8) : Sc := ⟨padS (bs.take 32), ((a.toNat % 2 : Nat) : Int), ((b.toNat % (2 ^ (a.toNat % 2) + 1) : Nat) : Int)⟩
theorem built28h (h : Int) : Tryd.prog.built 28 [(1, .int .i64 h)] = some (secV ⟨z32, h, 0⟩).toArray := by kernel_rfl
set_option maxRecDepth 100000 in
set_option maxHeartbeats 1000000 in
theorem Secret_any (A : Option Addr) (len cap : Nat) (bs : List UInt8) (a b : UInt8) (w : World) (hr : Rd w 1 A len (bs.map byteV)) :
    Calls Tryd.prog 11 #[.slice A len cap, .agg #[byteV a, byteV b]] w fun e w' => e = .returned (.agg (secV (secS bs a b)).toArray) ∧ Below w.heap.size w w' := by
  obtain ⟨i28, hi28, hz28, _, _⟩ := info_parts info28
  obtain ⟨d28, hd28, hrow28⟩ := und28
  have hbl := hr.len1
  have hal := a.toNat_lt
  have hbt := b.toNat_lt
  unfold byteV
  go_enter Tryd.func11, Tryd.ntmps11
  go_upto_region 1 with (refine wpList_alloc0 rfl 28 rfl (secV sc0).toArray _ i28 hi28 hz28 rfl ?_; simp only [Act.put, List.setIfInBounds_toArray, List.set_cons_succ, List.set_cons_zero])
  obtain ⟨w1, hw1⟩ : ∃ w1, w1 = (w.alloc (.cells #[.int .u8 (a.toNat : Int), .int .u8 (b.toNat : Int)] 30)).alloc (.cells (secV sc0).toArray 28) := ⟨_, rfl⟩
  have hB1 : Below w.heap.size w w1 := by rw [hw1]; exact ((Below.refl _ _).alloc (Nat.le_refl _) _).alloc (by simp) _
  have hX1 : Blk w1 w.heap.size 30 #[.int .u8 (a.toNat : Int), .int .u8 (b.toNat : Int)] := by rw [hw1]; exact (Blk.new _ _ _).alloc _
  have hZ1 : Blk w1 (w.heap.size + 1) 28 (secV sc0).toArray := by
    have := Blk.new (w.alloc (.cells #[.int .u8 (a.toNat : Int), .int .u8 (b.toNat : Int)] 30)) 28 (secV sc0).toArray
    rw [World.size_alloc] at this
    rw [hw1]; exact this
  rw [← hw1]
  try simp only [World.size_alloc]
  clear hw1
  have hsz1 := hB1.size
  have c0 : w1.cell? ⟨w.heap.size, 0, none⟩ = some (.int .u8 (a.toNat : Int)) := by rw [hX1.cell]; rfl
  have HX := Lib.hid hX1
  have HZ := Lib.hid hZ1
  have HB := Lib.hid hB1
  obtain ⟨h, hh⟩ : ∃ h : Nat, h = a.toNat % 2 := ⟨_, rfl⟩
  have hh1 : ((a.toNat : Int) % 2) = (h : Int) := by omega
  have Hh := Lib.hid hh
  have hh2 : h ≤ 1 := by omega
  clear hh
  have Hn_ := Lib.hid (Blk.new w1 28 (secV sc0).toArray)
  clear hX1 hZ1 hB1
  go_upto_region 2 with (first | (refine wpList_buildN rfl 28 _ rfl [(1, .int .i64 (h : Int))] (by simp [hh1, Act.eval]) _ (built28h _) ?_) | (refine wpList_alloc0 rfl 28 rfl (secV sc0).toArray _ i28 hi28 hz28 rfl ?_; simp only [Act.put, List.setIfInBounds_toArray, List.set_cons_succ, List.set_cons_zero]) | (refine wpList_store_row rfl 28 (.tmp 5) (.tmp 11) rfl w1.heap.size (secV ⟨z32, (h : Int), 0⟩).toArray rfl rfl 28 _ Hn_.out (size28 _ (sec_size _)) ((sec_size _).trans (sec_size _).symm) (sec_one _) ?_))
  obtain ⟨G, hG⟩ : ∃ G, G = w1.heap.size := ⟨_, rfl⟩
  obtain ⟨w2, hw2⟩ : ∃ v, v = (w1.alloc (.cells (secV sc0).toArray 28)).setRow w1.heap.size (secV ⟨z32, (h : Int), 0⟩).toArray := ⟨_, rfl⟩
  have hb2 : Below w1.heap.size w1 w2 := by rw [hw2]; exact Below.setRow ((Below.refl _ _).alloc (Nat.le_refl _) _) (Nat.le_refl _) _
  have hG2 : Blk w2 G 28 (secV ⟨z32, (h : Int), 0⟩).toArray := by rw [hw2, hG]; exact setRow_heap _ _ _ _ _ _ Hn_.out
  rw [← hw2, ← hG]
  have hGs : w.heap.size + 1 < G := by rw [hG]; exact HZ.out.lt
  replace HX := Lib.hid (HX.out.below hb2 HX.out.lt)
  replace HZ := Lib.hid (HZ.out.below hb2 HZ.out.lt)
  replace HB := Lib.hid (HB.out.trans (hb2.mono hsz1))
  have HG2 := Lib.hid hG2
  have HR := Lib.hid hr
  have Hbl := Lib.hid hbl
  clear hw2 Hn_ c0 hb2 hG2 hr hbl hG
  simp only [Act.put]
  go_wp2_with fail
  go_loopw [6] (fun v6 wr => ∃ k : Nat, v6 = .int .i64 (k : Int) ∧ k ≤ len ∧ k ≤ 32 ∧ Blk wr G 28 (secV ⟨padS (bs.take k), (h : Int), 0⟩).toArray ∧ Blk wr w.heap.size 30 #[.int .u8 (a.toNat : Int), .int .u8 (b.toNat : Int)] ∧ Blk wr (w.heap.size + 1) 28 (secV sc0).toArray ∧ Below w.heap.size w wr) (fun v6 _ => 32 - (intOf v6).toNat)
  case atStart => exact ⟨0, rfl, by omega, by omega, HG2.out, HX.out, HZ.out, HB.out⟩
  case round =>
    obtain ⟨k, rfl, hkl, hk32, hG, hX, hZ, hBr⟩ := hrel
    have HG := Lib.hid hG
    have HXr := Lib.hid hX
    have HZr := Lib.hid hZ
    have HBr := Lib.hid hBr
    clear hG hX hZ hBr HG2
    by_cases hlt : k < len ∧ k < 32
    · obtain ⟨hl1, hl2⟩ := hlt
      have d0 : decide ((k : Int) < (len : Int)) = true := decide_eq_true (by omega)
      have d1 : decide ((k : Int) < 32) = true := decide_eq_true (by omega)
      have d2 : (k : Int) < 32 := by omega
      have d3 : (0 : Int) ≤ (k : Int) := by omega
      have d4 : (k : Int) < (len : Int) := by omega
      obtain ⟨xb, xo, x, rfl, hx, cx⟩ := (HR.out.below HBr.out).byte_ (k := k) hl1
      have hkk : k < (padL (bs.take k)).length := by rw [padL_len]; exact hl2
      have og : wr.cell? ⟨G, k, none⟩ = some (.int .u8 (((padL (bs.take k))[k]'hkk).toNat : Int)) := by
        rw [HG.out.cell, List.getElem?_toArray]
        exact sec_seed ⟨padS (bs.take k), (h : Int), 0⟩ (by unfold sumC; rw [List.getElem?_map]; show Option.map _ ((padL (bs.take k))[k]?) = _; rw [List.getElem?_eq_getElem hkk]; rfl)
      have fg := HG.out.frozen k
      obtain ⟨y, hy⟩ : ∃ y, y = ((padL (bs.take k))[k]'hkk) := ⟨_, rfl⟩
      rw [← hy] at og
      have hn : Blk (wr.setCell ⟨G, k, none⟩ (.int .u8 (x.toNat : Int))) G 28 (secV ⟨padS (bs.take (k + 1)), (h : Int), 0⟩).toArray := by
        have h1 := heap_setCell_same wr G k _ 28 (.int .u8 (x.toNat : Int)) HG.out
        rw [sec_byte (s' := padS (bs.take (k + 1))) hl2 (by
          show padL _ = (padL _).set _ _
          rw [List.take_add_one, hx]
          have hlk : (bs.take k).length = k := by rw [List.length_take, Hbl.out]; omega
          have := padL_snoc (l := bs.take k) (b := x) (by omega)
          rw [hlk] at this
          exact this)] at h1
        exact h1
      have hkk2 := (KeptIn.refl (fun b => b ≠ G) wr).setAt (p := ⟨G, k, none⟩) (fun h => h rfl) (.int .u8 (x.toNat : Int))
      have Hn := Lib.hid hn
      have HX2 := Lib.hid (HXr.out.keptIn hkk2 (show w.heap.size ≠ G by omega))
      have HZ2 := Lib.hid (HZr.out.keptIn hkk2 (show w.heap.size + 1 ≠ G by omega))
      clear hn hkk2 hx hy
      go_wp2_with fail
      exact ⟨⟨k + 1, by push_cast; rfl, by omega, by omega, Hn.out, HX2.out, HZ2.out, HBr.out.setCell (by simp; omega) _⟩, by simp only [intOf]; omega⟩
    · have Hfin := Lib.hid (show bs.take k = bs.take 32 by
        by_cases e : k = 32
        · rw [e]
        · rw [List.take_of_length_le (by rw [Hbl.out]; omega), List.take_of_length_le (by rw [Hbl.out]; omega)])
      have c1 : wr.cell? ⟨w.heap.size, 1, none⟩ = some (.int .u8 (b.toNat : Int)) := by rw [HXr.out.cell]; rfl
      have ch : wr.cell? ⟨G, 32, none⟩ = some (.int .i64 (h : Int)) := by rw [HG.out.cell, List.getElem?_toArray, sec_h]
      have cn : wr.cell? ⟨G, 33, none⟩ = some (.int .i64 0) := by rw [HG.out.cell, List.getElem?_toArray, sec_n]
      have fn := HG.out.frozen 33
      by_cases hkl2 : k < len
      · have d0 : decide ((k : Int) < (len : Int)) = true := decide_eq_true (by omega)
        have d1 : decide ((k : Int) < 32) = false := decide_eq_false (by omega)
        go_upto_region 6 with fail
        obtain ⟨P, hP⟩ : ∃ P, P = 2 ^ h := ⟨_, rfl⟩
        have hP2 : P ≤ 2 ∧ 1 ≤ P := by rw [hP]; rcases (show h = 0 ∨ h = 1 by omega) with rfl | rfl <;> decide
        have hsh : IntKind.i64.wrap (2 ^ h) = (P : Int) := by rw [hP]; rcases (show h = 0 ∨ h = 1 by omega) with rfl | rfl <;> rfl
        have wb : IntKind.i64.wrap (b.toNat : Int) = (b.toNat : Int) := by simp [IntKind.wrap, IntKind.bits, IntKind.signed]; omega
        have wp : IntKind.i64.wrap ((P : Int) + 1) = (P : Int) + 1 := by simp [IntKind.wrap, IntKind.bits, IntKind.signed]; omega
        obtain ⟨q, hq⟩ : ∃ q, q = b.toNat % (P + 1) := ⟨_, rfl⟩
        have wq : (b.toNat : Int).tmod ((P : Int) + 1) = (q : Int) := by rw [Int.tmod_eq_emod_of_nonneg (by omega), hq]; push_cast; rfl
        have wq0 : ¬ ((P : Int) + 1 = 0) := by omega
        refine wp_region_flow_tail 9 [29, 30, 31, 32, 33, 34, 35, 36, 37] [(Spec.is (.pointer (some ⟨w.heap.size, 1, none⟩)), false), (Spec.is (.int .u8 (b.toNat : Int)), false), (Spec.is (.int .i64 (b.toNat : Int)), false), (Spec.is (.pointer (some ⟨G, 32, none⟩)), false), (Spec.is (.int .i64 (h : Int)), false), (Spec.is (.int .i64 (P : Int)), false), (Spec.is (.int .i64 ((P + 1 : Nat) : Int)), false), (Spec.is (.int .i64 (q : Int)), false), (Spec.is (.pointer (some ⟨G, 33, none⟩)), false)] 39 (by kernel_rfl) (List.take_append_drop _ _) rfl (by kernel_rfl) (by kernel_rfl) (by kernel_rfl) (by decide) (by kernel_rfl) (by kernel_rfl) (fun _ _ d _ _ h => by cases d <;> exact h) rfl (by decide) rfl (by decide) (by kernel_rfl) ?_ ?_
        · refine ⟨?_, ?_, ?_, ?_, ?_, ?_, ?_, ?_, ?_, trivial⟩
          · intro a W hE hb hs
            have h3 : a.eval (.tmp 3) = .pointer (some ⟨w.heap.size, 0, none⟩) := hb 3 (by decide)
            refine flow0 rfl ?_
            intro K hK
            unfold Oper.wp execOp
            simp only [h3, BigFrame.eval_const]
            simp [go_sem]
            exact hK _ _ ⟨Below.refl _ _, rfl, trivial⟩
          · intro a W hE hb hs
            have h29 : a.eval (.tmp 29) = .pointer (some ⟨w.heap.size, 1, none⟩) := hs 0 (by decide)
            refine flow0 rfl ?_
            have g0 : W.cell? ⟨w.heap.size, 1, none⟩ = some (.int .u8 (b.toNat : Int)) := by rw [(HXr.out.below (ext_below hE) HXr.out.lt).cell]; rfl
            intro K hK
            unfold Oper.wp execOp
            simp only [h29]
            simp [go_sem, g0]
            exact hK _ _ ⟨Below.refl _ _, rfl, trivial⟩
          · intro a W hE hb hs
            have h30 : a.eval (.tmp 30) = .int .u8 (b.toNat : Int) := hs 1 (by decide)
            refine flow0 rfl ?_
            intro K hK
            unfold Oper.wp execOp
            simp only [h30]
            simp [go_sem, wb]
            exact hK _ _ ⟨Below.refl _ _, rfl, trivial⟩
          · intro a W hE hb hs
            have h5 : a.eval (.tmp 5) = .pointer (some ⟨G, 0, none⟩) := hb 5 (by decide)
            refine flow0 rfl ?_
            intro K hK
            unfold Oper.wp execOp
            simp only [h5]
            simp [go_sem]
            exact hK _ _ ⟨Below.refl _ _, rfl, trivial⟩
          · intro a W hE hb hs
            have h32 : a.eval (.tmp 32) = .pointer (some ⟨G, 32, none⟩) := hs 3 (by decide)
            refine flow0 rfl ?_
            have g0 : W.cell? ⟨G, 32, none⟩ = some (.int .i64 (h : Int)) := by rw [(HG.out.below (ext_below hE) HG.out.lt).cell, List.getElem?_toArray, sec_h]
            intro K hK
            unfold Oper.wp execOp
            simp only [h32]
            simp [go_sem, g0]
            exact hK _ _ ⟨Below.refl _ _, rfl, trivial⟩
          · intro a W hE hb hs
            have h33 : a.eval (.tmp 33) = .int .i64 (h : Int) := hs 4 (by decide)
            refine flow0 rfl ?_
            intro K hK
            unfold Oper.wp execOp
            simp only [h33, BigFrame.eval_const]
            simp [go_sem, hsh]
            exact hK _ _ ⟨Below.refl _ _, rfl, trivial⟩
          · intro a W hE hb hs
            have h34 : a.eval (.tmp 34) = .int .i64 (P : Int) := hs 5 (by decide)
            refine flow0 rfl ?_
            intro K hK
            unfold Oper.wp execOp
            simp only [h34, BigFrame.eval_const]
            simp [go_sem, wp]
            exact hK _ _ ⟨Below.refl _ _, rfl, trivial⟩
          · intro a W hE hb hs
            have h31 : a.eval (.tmp 31) = .int .i64 (b.toNat : Int) := hs 2 (by decide)
            have h35 : a.eval (.tmp 35) = .int .i64 ((P + 1 : Nat) : Int) := hs 6 (by decide)
            refine flow0 rfl ?_
            intro K hK
            unfold Oper.wp execOp
            simp only [h31, h35]
            simp [go_sem, wq, wq0]
            exact hK _ _ ⟨Below.refl _ _, rfl, trivial⟩
          · intro a W hE hb hs
            have h5 : a.eval (.tmp 5) = .pointer (some ⟨G, 0, none⟩) := hb 5 (by decide)
            refine flow0 rfl ?_
            intro K hK
            unfold Oper.wp execOp
            simp only [h5]
            simp [go_sem]
            exact hK _ _ ⟨Below.refl _ _, rfl, trivial⟩
        · intro f W hb hT hp hd
          have e36 : f 36 = .int .i64 (q : Int) := hT 7 (by decide)
          have e37 : f 37 = .pointer (some ⟨G, 33, none⟩) := hT 8 (by decide)
          have hGW := HG.out.below hb HG.out.lt
          have hZW := HZr.out.below hb HZr.out.lt
          have gW : W.cell? ⟨G, 33, none⟩ = some (.int .i64 0) := by rw [hGW.cell, List.getElem?_toArray, sec_n]
          have fW := hGW.frozen 33
          have hGn : Blk (W.setCell ⟨G, 33, none⟩ (.int .i64 (q : Int))) G 28 (secV (secS bs a b)).toArray := by
            have h1 := heap_setCell_same W G 33 _ 28 (.int .i64 (q : Int)) hGW
            rw [sec_set] at h1
            have e : secS bs a b = ⟨padS (bs.take k), (h : Int), (q : Int)⟩ := by unfold secS; rw [← Hh.out, ← hP, ← hq, Hfin.out]
            rw [e]; exact h1
          have hZn := hZW.keptIn ((KeptIn.refl (fun b => b ≠ G) W).setAt (p := ⟨G, 33, none⟩) (fun h => h rfl) (.int .i64 (q : Int))) (show w.heap.size + 1 ≠ G by omega)
          have HBn := Lib.hid ((HBr.out.trans (hb.mono HBr.out.size)).setCell (p := ⟨G, 33, none⟩) (show w.heap.size ≤ G by omega) (.int .i64 (q : Int)))
          have HGn := Lib.hid (Blk.range hGn)
          have HZn := Lib.hid hZn
          simp only [putV, List.foldl_cons, List.foldl_nil, Act.put, List.setIfInBounds_toArray, List.set_cons_succ, List.set_cons_zero]
          rw [e36, e37]
          clear hb hT hp hd e36 e37 hGW hZW hGn hZn hsh wb wp wq wq0 hP hq c1 ch cn fn
          simp only [List.drop_succ_cons, List.drop_zero]
          go_wp2_with (first | (refine wpList_load_mid rfl 28 (.tmp 5) rfl G 0 rfl (secV (secS bs a b)) d28 HGn.out hd28 hrow28 (by rw [secV_len]; kernel_rfl) ?_) | (refine wpList_store_row rfl 28 (.tmp 4) (.tmp 38) rfl (w.heap.size + 1) (secV (secS bs a b)).toArray rfl rfl 28 _ HZn.out (size28 _ (sec_size _)) ((sec_size _).trans (sec_size _).symm) (sec_one _) ?_))
          refine bodyPost_ret (results_cell_row rfl _ _ (w.heap.size + 1) 28 (secV (secS bs a b)).toArray (0, 0) _ rfl (setRow_heap _ _ _ _ _ _ HZn.out) hd28 (by cases d28 <;> first | rfl | exact hrow28) (size28 _ (sec_size _))) rfl ⟨rfl, Below.setRow HBn.out (by omega) _⟩
      · have d0 : decide ((k : Int) < (len : Int)) = false := decide_eq_false (by omega)
        go_upto_region 6 with fail
        obtain ⟨P, hP⟩ : ∃ P, P = 2 ^ h := ⟨_, rfl⟩
        have hP2 : P ≤ 2 ∧ 1 ≤ P := by rw [hP]; rcases (show h = 0 ∨ h = 1 by omega) with rfl | rfl <;> decide
        have hsh : IntKind.i64.wrap (2 ^ h) = (P : Int) := by rw [hP]; rcases (show h = 0 ∨ h = 1 by omega) with rfl | rfl <;> rfl
        have wb : IntKind.i64.wrap (b.toNat : Int) = (b.toNat : Int) := by simp [IntKind.wrap, IntKind.bits, IntKind.signed]; omega
        have wp : IntKind.i64.wrap ((P : Int) + 1) = (P : Int) + 1 := by simp [IntKind.wrap, IntKind.bits, IntKind.signed]; omega
        obtain ⟨q, hq⟩ : ∃ q, q = b.toNat % (P + 1) := ⟨_, rfl⟩
        have wq : (b.toNat : Int).tmod ((P : Int) + 1) = (q : Int) := by rw [Int.tmod_eq_emod_of_nonneg (by omega), hq]; push_cast; rfl
        have wq0 : ¬ ((P : Int) + 1 = 0) := by omega
        refine wp_region_flow_tail 9 [29, 30, 31, 32, 33, 34, 35, 36, 37] [(Spec.is (.pointer (some ⟨w.heap.size, 1, none⟩)), false), (Spec.is (.int .u8 (b.toNat : Int)), false), (Spec.is (.int .i64 (b.toNat : Int)), false), (Spec.is (.pointer (some ⟨G, 32, none⟩)), false), (Spec.is (.int .i64 (h : Int)), false), (Spec.is (.int .i64 (P : Int)), false), (Spec.is (.int .i64 ((P + 1 : Nat) : Int)), false), (Spec.is (.int .i64 (q : Int)), false), (Spec.is (.pointer (some ⟨G, 33, none⟩)), false)] 39 (by kernel_rfl) (List.take_append_drop _ _) rfl (by kernel_rfl) (by kernel_rfl) (by kernel_rfl) (by decide) (by kernel_rfl) (by kernel_rfl) (fun _ _ d _ _ h => by cases d <;> exact h) rfl (by decide) rfl (by decide) (by kernel_rfl) ?_ ?_
        · refine ⟨?_, ?_, ?_, ?_, ?_, ?_, ?_, ?_, ?_, trivial⟩
          · intro a W hE hb hs
            have h3 : a.eval (.tmp 3) = .pointer (some ⟨w.heap.size, 0, none⟩) := hb 3 (by decide)
            refine flow0 rfl ?_
            intro K hK
            unfold Oper.wp execOp
            simp only [h3, BigFrame.eval_const]
            simp [go_sem]
            exact hK _ _ ⟨Below.refl _ _, rfl, trivial⟩
          · intro a W hE hb hs
            have h29 : a.eval (.tmp 29) = .pointer (some ⟨w.heap.size, 1, none⟩) := hs 0 (by decide)
            refine flow0 rfl ?_
            have g0 : W.cell? ⟨w.heap.size, 1, none⟩ = some (.int .u8 (b.toNat : Int)) := by rw [(HXr.out.below (ext_below hE) HXr.out.lt).cell]; rfl
            intro K hK
            unfold Oper.wp execOp
            simp only [h29]
            simp [go_sem, g0]
            exact hK _ _ ⟨Below.refl _ _, rfl, trivial⟩
          · intro a W hE hb hs
            have h30 : a.eval (.tmp 30) = .int .u8 (b.toNat : Int) := hs 1 (by decide)
            refine flow0 rfl ?_
            intro K hK
            unfold Oper.wp execOp
            simp only [h30]
            simp [go_sem, wb]
            exact hK _ _ ⟨Below.refl _ _, rfl, trivial⟩
          · intro a W hE hb hs
            have h5 : a.eval (.tmp 5) = .pointer (some ⟨G, 0, none⟩) := hb 5 (by decide)
            refine flow0 rfl ?_
            intro K hK
            unfold Oper.wp execOp
            simp only [h5]
            simp [go_sem]
            exact hK _ _ ⟨Below.refl _ _, rfl, trivial⟩
          · intro a W hE hb hs
            have h32 : a.eval (.tmp 32) = .pointer (some ⟨G, 32, none⟩) := hs 3 (by decide)
            refine flow0 rfl ?_
            have g0 : W.cell? ⟨G, 32, none⟩ = some (.int .i64 (h : Int)) := by rw [(HG.out.below (ext_below hE) HG.out.lt).cell, List.getElem?_toArray, sec_h]
            intro K hK
            unfold Oper.wp execOp
            simp only [h32]
            simp [go_sem, g0]
            exact hK _ _ ⟨Below.refl _ _, rfl, trivial⟩
          · intro a W hE hb hs
            have h33 : a.eval (.tmp 33) = .int .i64 (h : Int) := hs 4 (by decide)
            refine flow0 rfl ?_
            intro K hK
            unfold Oper.wp execOp
            simp only [h33, BigFrame.eval_const]
            simp [go_sem, hsh]
            exact hK _ _ ⟨Below.refl _ _, rfl, trivial⟩
          · intro a W hE hb hs
            have h34 : a.eval (.tmp 34) = .int .i64 (P : Int) := hs 5 (by decide)
            refine flow0 rfl ?_
            intro K hK
            unfold Oper.wp execOp
            simp only [h34, BigFrame.eval_const]
            simp [go_sem, wp]
            exact hK _ _ ⟨Below.refl _ _, rfl, trivial⟩
          · intro a W hE hb hs
            have h31 : a.eval (.tmp 31) = .int .i64 (b.toNat : Int) := hs 2 (by decide)
            have h35 : a.eval (.tmp 35) = .int .i64 ((P + 1 : Nat) : Int) := hs 6 (by decide)
            refine flow0 rfl ?_
            intro K hK
            unfold Oper.wp execOp
            simp only [h31, h35]
            simp [go_sem, wq, wq0]
            exact hK _ _ ⟨Below.refl _ _, rfl, trivial⟩
          · intro a W hE hb hs
            have h5 : a.eval (.tmp 5) = .pointer (some ⟨G, 0, none⟩) := hb 5 (by decide)
            refine flow0 rfl ?_
            intro K hK
            unfold Oper.wp execOp
            simp only [h5]
            simp [go_sem]
            exact hK _ _ ⟨Below.refl _ _, rfl, trivial⟩
        · intro f W hb hT hp hd
          have e36 : f 36 = .int .i64 (q : Int) := hT 7 (by decide)
          have e37 : f 37 = .pointer (some ⟨G, 33, none⟩) := hT 8 (by decide)
          have hGW := HG.out.below hb HG.out.lt
          have hZW := HZr.out.below hb HZr.out.lt
          have gW : W.cell? ⟨G, 33, none⟩ = some (.int .i64 0) := by rw [hGW.cell, List.getElem?_toArray, sec_n]
          have fW := hGW.frozen 33
          have hGn : Blk (W.setCell ⟨G, 33, none⟩ (.int .i64 (q : Int))) G 28 (secV (secS bs a b)).toArray := by
            have h1 := heap_setCell_same W G 33 _ 28 (.int .i64 (q : Int)) hGW
            rw [sec_set] at h1
            have e : secS bs a b = ⟨padS (bs.take k), (h : Int), (q : Int)⟩ := by unfold secS; rw [← Hh.out, ← hP, ← hq, Hfin.out]
            rw [e]; exact h1
          have hZn := hZW.keptIn ((KeptIn.refl (fun b => b ≠ G) W).setAt (p := ⟨G, 33, none⟩) (fun h => h rfl) (.int .i64 (q : Int))) (show w.heap.size + 1 ≠ G by omega)
          have HBn := Lib.hid ((HBr.out.trans (hb.mono HBr.out.size)).setCell (p := ⟨G, 33, none⟩) (show w.heap.size ≤ G by omega) (.int .i64 (q : Int)))
          have HGn := Lib.hid (Blk.range hGn)
          have HZn := Lib.hid hZn
          simp only [putV, List.foldl_cons, List.foldl_nil, Act.put, List.setIfInBounds_toArray, List.set_cons_succ, List.set_cons_zero]
          rw [e36, e37]
          clear hb hT hp hd e36 e37 hGW hZW hGn hZn hsh wb wp wq wq0 hP hq c1 ch cn fn
          simp only [List.drop_succ_cons, List.drop_zero]
          go_wp2_with (first | (refine wpList_load_mid rfl 28 (.tmp 5) rfl G 0 rfl (secV (secS bs a b)) d28 HGn.out hd28 hrow28 (by rw [secV_len]; kernel_rfl) ?_) | (refine wpList_store_row rfl 28 (.tmp 4) (.tmp 38) rfl (w.heap.size + 1) (secV (secS bs a b)).toArray rfl rfl 28 _ HZn.out (size28 _ (sec_size _)) ((sec_size _).trans (sec_size _).symm) (sec_one _) ?_))
          refine bodyPost_ret (results_cell_row rfl _ _ (w.heap.size + 1) 28 (secV (secS bs a b)).toArray (0, 0) _ rfl (setRow_heap _ _ _ _ _ _ HZn.out) hd28 (by cases d28 <;> first | rfl | exact hrow28) (size28 _ (sec_size _))) rfl ⟨rfl, Below.setRow HBn.out (by omega) _⟩
end Go.Proofs.YtfdhiilhjfbehaaDoor
