/- Out of chapter 16 (printed by need.py). -/
import Derived.Test.YteofgkdpknaapaaN02
namespace Go.Proofs.Yteofgkdpknaapaa
open Go.RowKit Go.Sort

/-- The bytes so far: ahead of the chains, of the path, at the end. -/
def preA (i : Int) (m : Nat) (ch pa : List Sum32) : Nat → List UInt8
  | 0 => [b8 i, b8 (m : Int)]
  | 1 => [b8 i, b8 (m : Int)] ++ ch.flatMap (·.1)
  | _ => [b8 i, b8 (m : Int)] ++ ch.flatMap (·.1) ++ pa.flatMap (·.1)
def lenA (n m : Nat) : Nat → Nat
  | 0 => 2
  | 1 => 2 + 32 * n
  | _ => 2 + 32 * n + 32 * m
set_option maxRecDepth 100000 in
set_option maxHeartbeats 2000000 in
theorem Bytes_any (i : Int) (C D : Option Addr) (n c m d : Nat) (ch pa : List Sum32) (w : World) (hch : Rd w 32 C n (ch.flatMap sumC)) (hpa : Rd w 32 D m (pa.flatMap sumC)) (hn : n ≤ 100000) (hm : m ≤ 100000) :
    Calls Try.prog 46 #[.agg (sgV i C n c D m d).toArray] w fun e w' => (∃ (A' : Option Addr) (c' : Nat), e = .returned (.slice A' (2 + 32 * n + 32 * m) c') ∧ 2 + 32 * n + 32 * m ≤ c' ∧ Rd w' 1 A' (2 + 32 * n + 32 * m) ((bytS ⟨i, ch, pa⟩).map byteV)) ∧ Below w.heap.size w w' := by
  obtain ⟨i0, hi0, hz0, hz1, hz2⟩ := info_parts info5
  obtain ⟨i32, hi32, hz32, hs32, hy32⟩ := info_parts info32
  have hb1 := b8_wrap i
  have hb2 := b8_wrap (m : Int)
  have hpl := hpa.lenf sumC_len (by omega)
  have HPL := Lib.hid hpl
  clear hpl
  go_enter Try.func46, Try.ntmps46
  go_upto_region 1 with fail
  obtain ⟨w1, hw1⟩ : ∃ v, v = w.alloc (.cells (sgV i C n c D m d).toArray 95) := ⟨_, rfl⟩
  have hB1 : Below w.heap.size w w1 := by rw [hw1]; exact (Below.refl _ _).alloc (Nat.le_refl _) _
  have hX1 : Blk w1 w.heap.size 95 (sgV i C n c D m d).toArray := by rw [hw1]; exact Blk.new _ _ _
  rw [← hw1]
  clear hw1
  have a0 : w1.cell? ⟨w.heap.size, 0, none⟩ = some (.int .i64 i) := by rw [hX1.cell]; rfl
  have a2 : w1.cell? ⟨w.heap.size, 2, none⟩ = some (.slice D m d) := by rw [hX1.cell]; rfl
  go_upto_region 2 with fail
  obtain ⟨w2, hw2⟩ : ∃ v, v = w1.alloc (.cells #[.int .u8 ((b8 i).toNat : Int), .int .u8 ((b8 (m : Int)).toNat : Int)] 5) := ⟨_, rfl⟩
  have hb12 : Below w1.heap.size w1 w2 := by rw [hw2]; exact (Below.refl _ _).alloc (Nat.le_refl _) _
  have hown : AppZ w2 w1.heap.size 5 1 (.slice (some ⟨w1.heap.size, 0, none⟩) 2 2) 2 ((preA i m ch pa 0).map byteV) := by
    rw [hw2]
    exact .inr (World.ownsRow_lit w1 #[byteV (b8 i), byteV (b8 (m : Int))] 2 (Nat.le_refl _) (by unfold maxLen; omega) rfl)
  rw [← hw2]
  clear hw2 a0 a2
  have hX2 := hX1.below hb12 hX1.lt
  have a1 : w2.cell? ⟨w.heap.size, 1, none⟩ = some (.slice C n c) := by rw [hX2.cell]; rfl
  have a2 : w2.cell? ⟨w.heap.size, 2, none⟩ = some (.slice D m d) := by rw [hX2.cell]; rfl
  go_upto_region 3 with fail
  obtain ⟨w3, hw3⟩ : ∃ v, v = w2.alloc (.cells #[.slice C n c, .slice D m d] 34) := ⟨_, rfl⟩
  have hb23 : Below w2.heap.size w2 w3 := by rw [hw3]; exact (Below.refl _ _).alloc (Nat.le_refl _) _
  obtain ⟨X20, hX20e⟩ : ∃ v, v = w2.heap.size := ⟨_, rfl⟩
  have hX20 : Blk w3 X20 34 #[.slice C n c, .slice D m d] := by rw [hw3, hX20e]; exact Blk.new _ _ _
  rw [← hw3, ← hX20e]
  clear hw3 hX20e
  have Hch := Lib.hid (hch.below hB1)
  have Hpa := Lib.hid (hpa.below hB1)
  have Happ1 := Lib.hid (hown.below hb23 (Nat.le_refl _))
  have HB1 := Lib.hid hB1
  have HB3 := Lib.hid (hb12.trans (hb23.mono hb12.size))
  have HX3 := Lib.hid hX20
  have hs13 : w1.heap.size ≤ w3.heap.size := Nat.le_trans hb12.size hb23.size
  clear hB1 hX1 hb12 hX2 a1 a2 hown hb23 hX20 hch hpa hb1 hb2
  go_loopw [3, 22] (fun v3 v22 wr => ∃ a : Nat, v22 = .int .i64 (a : Int) ∧ a ≤ 2 ∧ AppZ wr w1.heap.size 5 1 v3 (lenA n m a) ((preA i m ch pa a).map byteV) ∧ Blk wr X20 34 #[.slice C n c, .slice D m d] ∧ Below w1.heap.size w1 wr) (fun _ v22 _ => 2 - (intOf v22).toNat)
  case atStart => exact ⟨0, rfl, by omega, Happ1.out, HX3.out, HB3.out⟩
  case round =>
    obtain ⟨a, rfl, ha, happ, hX, hB0⟩ := hrel
    have Happ0 := Lib.hid happ
    have HB0 := Lib.hid hB0
    have HX20 := Lib.hid hX
    clear happ hB0 hX Happ1
    rcases (show a = 0 ∨ a = 1 ∨ a = 2 by omega) with h | h | h
    · skip
      have hr0 := Hch.out.below HB0.out
      have hxl := Hch.out.lenf sumC_len (by omega)
      have Hr0 := Lib.hid hr0
      clear hr0
      have Ha := Lib.hid h
      replace Happ0 := Lib.hid (show AppZ wr w1.heap.size 5 1 _ 2 ((preA i m ch pa 0).map byteV) by have := Happ0.out; rw [h] at this; exact this)
      have da : decide ((a : Int) < 2) = true := decide_eq_true (by omega)
      have ha2 : (a : Int) < 2 := by omega
      have ha0 : (0 : Int) ≤ (a : Int) := by omega
      clear h
      have g0 : wr.cell? ⟨X20, a, none⟩ = some (.slice C n c) := by rw [HX20.out.cell, Ha.out]; rfl
      go_upto_region 6 with fail
      obtain ⟨wo, hwo⟩ : ∃ wo, wo = wr := ⟨_, rfl⟩
      subst hwo
      clear g0
      go_loopw [3, 7, 28] (fun v3 _ v28 wr => ∃ j : Nat, v28 = .int .i64 (j : Int) ∧ j ≤ n ∧ AppZ wr w1.heap.size 5 1 v3 (2 + 32 * j) (((preA i m ch pa 0) ++ (ch.take j).flatMap (·.1)).map byteV) ∧ Blk wr X20 34 #[.slice C n c, .slice D m d] ∧ Below w1.heap.size w1 wr) (fun _ _ v28 _ => n - (intOf v28).toNat)
      case atStart => exact ⟨0, rfl, Nat.zero_le _, by rw [List.take_zero, List.flatMap_nil, List.append_nil]; exact Happ0.out, HX20.out, HB0.out⟩
      case round =>
        obtain ⟨j, rfl, hj, happ, hX, hBi⟩ := hrel
        have HXi := Lib.hid hX
        have Happ := Lib.hid happ
        have HBi := Lib.hid hBi
        have hszo := hBi.size
        have hr0 := Hch.out.below hBi
        replace Hr0 := Lib.hid hr0
        clear happ hBi hX hr0
        by_cases hlt : j < n
        · have d1 : decide ((j : Int) < (n : Int)) = true := decide_eq_true (by omega)
          have hjn : (j : Int) < (n : Int) := by omega
          have hj0 : (0 : Int) ≤ (j : Int) := by omega
          obtain ⟨cb, co, hAe, _⟩ := Hr0.out.2.2 (by omega)
          obtain ⟨x, hx⟩ : ∃ x, ch[j]? = some x := ⟨_, List.getElem?_eq_getElem (by omega)⟩
          have hxr : wr.rangeAt cb (co + j * 32) (sumC x) := by
            have h := Hr0.out
            rw [hAe] at h
            have := h.range32 hlt
            rwa [List.getD_eq_getElem?_getD, hx] at this
          have Hxg := Lib.hid hxr
          have Htk := Lib.hid (show ch.take (j + 1) = ch.take j ++ [x] by rw [List.take_add_one, hx]; rfl)
          obtain ⟨wx, hwx⟩ : ∃ v, v = (wr.alloc (.cells zero32 93)).setRow wr.heap.size (sumC x).toArray := ⟨_, rfl⟩
          obtain ⟨X7, hX7⟩ : ∃ v, v = wr.heap.size := ⟨_, rfl⟩
          have hN7 : Blk (wr.alloc (.cells zero32 93)) X7 93 zero32 := by rw [hX7]; exact Blk.new _ _ _
          have hx7 : Blk wx X7 93 (sumC x).toArray := by rw [hwx, hX7]; exact setRow_heap _ _ _ _ _ _ (by rw [← hX7]; exact hN7)
          have hbx : Below wr.heap.size wr wx := by rw [hwx]; exact Below.setRow ((Below.refl _ _).alloc (Nat.le_refl _) _) (Nat.le_refl _) _
          have hx7r : Rd wx 1 (some ⟨X7, 0, none⟩) 32 (sumC x) := by
            have := hx7.rd (by rw [sumC_len]; omega)
            rwa [sumC_len] at this
          have Hxr := Lib.hid hx7r
          have HN7 := Lib.hid hN7
          have HWX := Lib.hid hwx
          have HEX := Lib.hid hX7
          replace Happ := Lib.hid (Happ.out.below hbx (Nat.le_refl _))
          replace HBi := Lib.hid (HBi.out.trans (hbx.mono hszo))
          replace HXi := Lib.hid (HXi.out.below hbx HXi.out.lt)
          have hszi : w1.heap.size ≤ wx.heap.size := HBi.out.size
          subst hAe
          clear hx hxr hwx hX7 hN7 hx7 hbx hx7r
          go_upto_region 8 with (first | (refine wpList_load_mid rfl 93 (.tmp 30) rfl cb (co + j * 32) rfl (sumC x) _ Hxg.out und32 rfl (by rw [sumC_len]; kernel_rfl) ?_) | (refine wpList_alloc0 rfl 93 rfl zero32 _ i32 hi32 hz32 rfl ?_; simp only [Act.put, List.setIfInBounds_toArray, List.set_cons_succ, List.set_cons_zero]) | (refine wpList_store_row rfl 93 (.tmp 7) (.tmp 31) rfl wr.heap.size (sumC x).toArray rfl rfl 93 _ (HEX.out ▸ HN7.out) (size32 _ (sum_size _)) ((zero32_size).trans (sum_size _).symm) (all_oneCell_toArray (oneB _)) ?_; rw [← HWX.out, ← HEX.out]))
          go_wp2_with (at_builtin; refine wpList_appz rfl (.tmp 32) (.tmp 33) 26 rfl 5 i0 (.int .u8 0) 1 1 Try.underlying26 hi0 hz0 hz1 hz2 rfl (by omega) w1.heap.size hszi _ _ _ rfl Happ.out (some ⟨X7, 0, none⟩) 32 32 (sumC x) rfl Hxr.out (oneB _) (by unfold maxLen; omega) (by omega) ?_; intro v6 w6 happ6 hg6)
          have hX6 := HXi.out.kept hg6 (Happ.out.own_ne (by omega) HXi.out (by decide))
          have hb7 := HBi.out.trans ((Below.refl w1.heap.size wx).grown hg6 hszi (fun g e => (Happ.out.lt g e).1))
          refine ⟨⟨j + 1, by go_num, by omega, ?_, hX6, hb7⟩, by simp [intOf]; omega⟩
          rw [Htk.out, List.flatMap_append, ← List.append_assoc, List.map_append, show 2 + 32 * (j + 1) = 2 + 32 * j + 32 by omega]
          rw [show [x].flatMap (·.1) = x.1 by simp]
          exact happ6
        · have d1 : decide ((j : Int) < (n : Int)) = false := decide_eq_false (by omega)
          have hjn : j = n := by omega
          rw [hjn] at Happ
          clear hjn
          have hpre : ((preA i m ch pa 0) ++ (ch.take n).flatMap (·.1)) = (preA i m ch pa 1) := by rw [List.take_of_length_le (by omega)]; rfl
          rw [hpre] at Happ
          clear hpre
          go_wp2_with fail
          exact ⟨⟨a + 1, by push_cast; rfl, by omega, by rw [Ha.out]; exact Happ.out, HXi.out, HBi.out⟩, by simp [intOf]; omega⟩
    · skip
      have hr0 := Hpa.out.below HB0.out
      have hxl := Hpa.out.lenf sumC_len (by omega)
      have Hr0 := Lib.hid hr0
      clear hr0
      have Ha := Lib.hid h
      replace Happ0 := Lib.hid (show AppZ wr w1.heap.size 5 1 _ (2 + 32 * n) ((preA i m ch pa 1).map byteV) by have := Happ0.out; rw [h] at this; exact this)
      have da : decide ((a : Int) < 2) = true := decide_eq_true (by omega)
      have ha2 : (a : Int) < 2 := by omega
      have ha0 : (0 : Int) ≤ (a : Int) := by omega
      clear h
      have g0 : wr.cell? ⟨X20, a, none⟩ = some (.slice D m d) := by rw [HX20.out.cell, Ha.out]; rfl
      go_upto_region 6 with fail
      obtain ⟨wo, hwo⟩ : ∃ wo, wo = wr := ⟨_, rfl⟩
      subst hwo
      clear g0
      go_loopw [3, 7, 28] (fun v3 _ v28 wr => ∃ j : Nat, v28 = .int .i64 (j : Int) ∧ j ≤ m ∧ AppZ wr w1.heap.size 5 1 v3 ((2 + 32 * n) + 32 * j) (((preA i m ch pa 1) ++ (pa.take j).flatMap (·.1)).map byteV) ∧ Blk wr X20 34 #[.slice C n c, .slice D m d] ∧ Below w1.heap.size w1 wr) (fun _ _ v28 _ => m - (intOf v28).toNat)
      case atStart => exact ⟨0, rfl, Nat.zero_le _, by rw [List.take_zero, List.flatMap_nil, List.append_nil]; exact Happ0.out, HX20.out, HB0.out⟩
      case round =>
        obtain ⟨j, rfl, hj, happ, hX, hBi⟩ := hrel
        have HXi := Lib.hid hX
        have Happ := Lib.hid happ
        have HBi := Lib.hid hBi
        have hszo := hBi.size
        have hr0 := Hpa.out.below hBi
        replace Hr0 := Lib.hid hr0
        clear happ hBi hX hr0
        by_cases hlt : j < m
        · have d1 : decide ((j : Int) < (m : Int)) = true := decide_eq_true (by omega)
          have hjn : (j : Int) < (m : Int) := by omega
          have hj0 : (0 : Int) ≤ (j : Int) := by omega
          obtain ⟨cb, co, hAe, _⟩ := Hr0.out.2.2 (by omega)
          obtain ⟨x, hx⟩ : ∃ x, pa[j]? = some x := ⟨_, List.getElem?_eq_getElem (by omega)⟩
          have hxr : wr.rangeAt cb (co + j * 32) (sumC x) := by
            have h := Hr0.out
            rw [hAe] at h
            have := h.range32 hlt
            rwa [List.getD_eq_getElem?_getD, hx] at this
          have Hxg := Lib.hid hxr
          have Htk := Lib.hid (show pa.take (j + 1) = pa.take j ++ [x] by rw [List.take_add_one, hx]; rfl)
          obtain ⟨wx, hwx⟩ : ∃ v, v = (wr.alloc (.cells zero32 93)).setRow wr.heap.size (sumC x).toArray := ⟨_, rfl⟩
          obtain ⟨X7, hX7⟩ : ∃ v, v = wr.heap.size := ⟨_, rfl⟩
          have hN7 : Blk (wr.alloc (.cells zero32 93)) X7 93 zero32 := by rw [hX7]; exact Blk.new _ _ _
          have hx7 : Blk wx X7 93 (sumC x).toArray := by rw [hwx, hX7]; exact setRow_heap _ _ _ _ _ _ (by rw [← hX7]; exact hN7)
          have hbx : Below wr.heap.size wr wx := by rw [hwx]; exact Below.setRow ((Below.refl _ _).alloc (Nat.le_refl _) _) (Nat.le_refl _) _
          have hx7r : Rd wx 1 (some ⟨X7, 0, none⟩) 32 (sumC x) := by
            have := hx7.rd (by rw [sumC_len]; omega)
            rwa [sumC_len] at this
          have Hxr := Lib.hid hx7r
          have HN7 := Lib.hid hN7
          have HWX := Lib.hid hwx
          have HEX := Lib.hid hX7
          replace Happ := Lib.hid (Happ.out.below hbx (Nat.le_refl _))
          replace HBi := Lib.hid (HBi.out.trans (hbx.mono hszo))
          replace HXi := Lib.hid (HXi.out.below hbx HXi.out.lt)
          have hszi : w1.heap.size ≤ wx.heap.size := HBi.out.size
          subst hAe
          clear hx hxr hwx hX7 hN7 hx7 hbx hx7r
          go_upto_region 8 with (first | (refine wpList_load_mid rfl 93 (.tmp 30) rfl cb (co + j * 32) rfl (sumC x) _ Hxg.out und32 rfl (by rw [sumC_len]; kernel_rfl) ?_) | (refine wpList_alloc0 rfl 93 rfl zero32 _ i32 hi32 hz32 rfl ?_; simp only [Act.put, List.setIfInBounds_toArray, List.set_cons_succ, List.set_cons_zero]) | (refine wpList_store_row rfl 93 (.tmp 7) (.tmp 31) rfl wr.heap.size (sumC x).toArray rfl rfl 93 _ (HEX.out ▸ HN7.out) (size32 _ (sum_size _)) ((zero32_size).trans (sum_size _).symm) (all_oneCell_toArray (oneB _)) ?_; rw [← HWX.out, ← HEX.out]))
          go_wp2_with (at_builtin; refine wpList_appz rfl (.tmp 32) (.tmp 33) 26 rfl 5 i0 (.int .u8 0) 1 1 Try.underlying26 hi0 hz0 hz1 hz2 rfl (by omega) w1.heap.size hszi _ _ _ rfl Happ.out (some ⟨X7, 0, none⟩) 32 32 (sumC x) rfl Hxr.out (oneB _) (by unfold maxLen; omega) (by omega) ?_; intro v6 w6 happ6 hg6)
          have hX6 := HXi.out.kept hg6 (Happ.out.own_ne (by omega) HXi.out (by decide))
          have hb7 := HBi.out.trans ((Below.refl w1.heap.size wx).grown hg6 hszi (fun g e => (Happ.out.lt g e).1))
          refine ⟨⟨j + 1, by go_num, by omega, ?_, hX6, hb7⟩, by simp [intOf]; omega⟩
          rw [Htk.out, List.flatMap_append, ← List.append_assoc, List.map_append, show (2 + 32 * n) + 32 * (j + 1) = (2 + 32 * n) + 32 * j + 32 by omega]
          rw [show [x].flatMap (·.1) = x.1 by simp]
          exact happ6
        · have d1 : decide ((j : Int) < (m : Int)) = false := decide_eq_false (by omega)
          have hjn : j = m := by omega
          rw [hjn] at Happ
          clear hjn
          have hpre : ((preA i m ch pa 1) ++ (pa.take m).flatMap (·.1)) = (preA i m ch pa 2) := by rw [List.take_of_length_le (by omega)]; rfl
          rw [hpre] at Happ
          clear hpre
          go_wp2_with fail
          exact ⟨⟨a + 1, by push_cast; rfl, by omega, by rw [Ha.out]; exact Happ.out, HXi.out, HBi.out⟩, by simp [intOf]; omega⟩
    · have da : decide ((a : Int) < 2) = false := decide_eq_false (by omega)
      have h9 := Happ0.out
      rw [h] at h9
      obtain ⟨A', c', rfl, hc', hR⟩ := h9.rd
      have HR := Lib.hid hR
      have HBz := Lib.hid (HB1.out.trans (HB0.out.mono HB1.out.size))
      clear hR
      go_wp2_with fail
      go_ret
      refine ⟨⟨A', c', rfl, hc', ?_⟩, HBz.out⟩
      have : bytS ⟨i, ch, pa⟩ = preA i m ch pa 2 := by
        show b8 i :: b8 (pa.length : Int) :: (ch.flatMap (·.1) ++ pa.flatMap (·.1)) = [b8 i, b8 (m : Int)] ++ ch.flatMap (·.1) ++ pa.flatMap (·.1)
        rw [HPL.out, List.append_assoc]; rfl
      rw [this]
      exact HR.out
end Go.Proofs.Yteofgkdpknaapaa
