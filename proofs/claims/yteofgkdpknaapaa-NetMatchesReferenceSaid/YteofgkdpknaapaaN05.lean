/- Out of chapter 16 (printed by need.py). -/
import Derived.Test.YteofgkdpknaapaaN04
namespace Go.Proofs.Yteofgkdpknaapaa
open Go.RowKit Go.Sort

theorem take_drop_snoc {bs : List UInt8} {a k : Nat} {b : UInt8} (h : bs[a + k]? = some b) : (bs.drop a).take (k + 1) = (bs.drop a).take k ++ [b] := by
  rw [List.take_add_one, List.getElem?_drop, h]; rfl
set_option maxRecDepth 100000 in
set_option maxHeartbeats 1000000 in
theorem RsumAt_any (A : Option Addr) (L c : Nat) (bs : List UInt8) (i : Nat) (w : World) (hr : Rd w 1 A L (bs.map byteV)) (hi : 2 + 32 * i + 32 ≤ L) (hL : L ≤ 8796093021000) :
    Calls Try.prog 63 #[.slice A L c, .int .i64 (i : Int)] w fun e w' => e = .returned (.agg (sumC (sumAt bs i)).toArray) ∧ Below w.heap.size w w' := by
  obtain ⟨i32, hi32, hz32, hs32, hy32⟩ := info_parts info32
  have hbl := hr.len1
  obtain ⟨bb, bo, rfl, _⟩ := hr.2.2 (by omega)
  have hzz : (sumC z32).toArray = zero32 := rfl
  go_enter Try.func63, Try.ntmps63
  have HN4 := Lib.hid (Blk.new w 93 zero32)
  go_upto_region 1 with (refine wpList_alloc0 rfl 93 rfl zero32 _ i32 hi32 hz32 rfl ?_; simp only [Act.put, List.setIfInBounds_toArray, List.set_cons_succ, List.set_cons_zero])
  obtain ⟨w1, hw1⟩ : ∃ v, v = w.alloc (.cells zero32 93) := ⟨_, rfl⟩
  have hB1 : Below w.heap.size w w1 := by rw [hw1]; exact (Below.refl _ _).alloc (Nat.le_refl _) _
  have hX4 : Blk w1 w.heap.size 93 zero32 := by rw [hw1]; exact HN4.out
  rw [← hw1]
  clear hw1 HN4
  have HN5 := Lib.hid (Blk.new w1 93 zero32)
  go_upto_region 2 with (first | (refine wpList_buildN rfl 93 _ rfl [] rfl _ built32z ?_) | (refine wpList_alloc0 rfl 93 rfl zero32 _ i32 hi32 hz32 rfl ?_; simp only [Act.put, List.setIfInBounds_toArray, List.set_cons_succ, List.set_cons_zero]) | (refine wpList_store_row rfl 93 (.tmp 5) (.tmp 7) rfl w1.heap.size (sumC z32).toArray rfl rfl 93 _ HN5.out (size32 _ (sum_size _)) ((zero32_size).trans (sum_size _).symm) (all_oneCell_toArray (oneB _)) ?_))
  obtain ⟨X5, hX5e⟩ : ∃ v, v = w1.heap.size := ⟨_, rfl⟩
  obtain ⟨w2, hw2⟩ : ∃ v, v = (w1.alloc (.cells zero32 93)).setRow w1.heap.size (sumC z32).toArray := ⟨_, rfl⟩
  have hb2 : Below w1.heap.size w1 w2 := by rw [hw2]; exact Below.setRow ((Below.refl _ _).alloc (Nat.le_refl _) _) (Nat.le_refl _) _
  have hX5 : Blk w2 X5 93 (sumC (padS ((bs.drop (2 + 32 * i)).take 0))).toArray := by rw [hw2, hX5e, List.take_zero, padS_nil]; exact setRow_heap _ _ _ _ _ _ HN5.out
  rw [← hw2, ← hX5e]
  have hlt5 : w.heap.size < X5 := by rw [hX5e]; exact hX4.lt
  have HX4 := Lib.hid (hX4.below hb2 hX4.lt)
  have HX5 := Lib.hid hX5
  have HB2 := Lib.hid (hB1.trans (hb2.mono hB1.size))
  have Hr := Lib.hid hr
  clear hw2 hX5e hb2 hX5 hX4 hB1 HN5 hr
  go_wp2_with fail
  go_loopw [6] (fun v6 wr => ∃ k : Nat, v6 = .int .i64 (k : Int) ∧ k ≤ 32 ∧ Blk wr X5 93 (sumC (padS ((bs.drop (2 + 32 * i)).take k))).toArray ∧ Blk wr w.heap.size 93 zero32 ∧ Below w.heap.size w wr) (fun v6 _ => 32 - (intOf v6).toNat)
  case atStart => exact ⟨0, rfl, by omega, HX5.out, HX4.out, HB2.out⟩
  case round =>
    obtain ⟨k, rfl, hk, h5, h4, hB⟩ := hrel
    have H5 := Lib.hid h5
    have H4 := Lib.hid h4
    have HBr := Lib.hid hB
    have Hrr := Lib.hid (Hr.out.below hB)
    clear h5 h4 hB HX5 HX4 HB2
    by_cases hlt : k < 32
    · have d0 : decide ((k : Int) < 32) = true := decide_eq_true (by omega)
      obtain ⟨b, hb⟩ : ∃ b, bs[2 + 32 * i + k]? = some b := ⟨_, List.getElem?_eq_getElem (by omega)⟩
      obtain ⟨lo, hlo⟩ : ∃ lo : Nat, lo = 2 + 32 * i + k := ⟨_, rfl⟩
      have gb : wr.cell? ⟨bb, bo + lo, none⟩ = some (.int .u8 (b.toNat : Int)) := by
        obtain ⟨b', o', e, hc⟩ := Hrr.out.2.2 (by omega)
        cases e
        rw [hlo]
        exact hc (2 + 32 * i + k) (byteV b) (by rw [List.getElem?_map, hb]; rfl)
      have w1i : IntKind.i64.wrap (32 * (i : Int)) = 32 * (i : Int) := by simp [IntKind.wrap, IntKind.bits, IntKind.signed]; omega
      have w2i : IntKind.i64.wrap (2 + 32 * (i : Int)) = 2 + 32 * (i : Int) := by simp [IntKind.wrap, IntKind.bits, IntKind.signed]; omega
      have w3i : IntKind.i64.wrap (2 + 32 * (i : Int) + (k : Int)) = (lo : Int) := by simp [IntKind.wrap, IntKind.bits, IntKind.signed]; omega
      have hlL : (lo : Int) < (L : Int) := by omega
      have hl0 : (0 : Int) ≤ (lo : Int) := by omega
      have hk32 : (k : Int) < 32 := by omega
      have hk0 : (0 : Int) ≤ (k : Int) := by omega
      have fr5 := H5.out.frozen k
      have hlen : ((bs.drop (2 + 32 * i)).take k).length = k := by rw [List.length_take, List.length_drop]; omega
      have c5 : wr.cell? ⟨X5, k, none⟩ = (sumC (padS ((bs.drop (2 + 32 * i)).take k))).toArray[k]? := H5.out.cell k
      obtain ⟨q, hq⟩ : ∃ q, (sumC (padS ((bs.drop (2 + 32 * i)).take k))).toArray[k]? = some q := ⟨_, Array.getElem?_eq_getElem (by rw [sum_size]; omega)⟩
      rw [hq] at c5
      have HS := Lib.hid (show (sumC (padS ((bs.drop (2 + 32 * i)).take k))).toArray.setIfInBounds k (.int .u8 (b.toNat : Int)) = (sumC (padS ((bs.drop (2 + 32 * i)).take (k + 1)))).toArray by
        rw [take_drop_snoc hb, List.setIfInBounds_toArray]
        congr 1
        show ((padL _).map byteV).set k (byteV b) = (padL _).map byteV
        rw [padL_snoc (by omega), List.map_set, hlen])
      have HE5 := Lib.hid (heap_setCell_same wr X5 k _ 93 (.int .u8 (b.toNat : Int)) H5.out)
      have HE4 := Lib.hid (H4.out.keptIn ((KeptIn.refl (fun b => b ≠ X5) wr).setAt (p := ⟨X5, k, none⟩) (fun h => h rfl) (.int .u8 (b.toNat : Int))) (show w.heap.size ≠ X5 by omega))
      have HEB := Lib.hid (show Below w.heap.size w (wr.setCell ⟨X5, k, none⟩ (.int .u8 (b.toNat : Int))) from Below.setCell HBr.out (show w.heap.size ≤ X5 by omega) _)
      clear hb hlo hq hlen
      go_wp2_with fail
      exact ⟨⟨k + 1, by push_cast; rfl, by omega, by rw [← HS.out]; exact HE5.out, HE4.out, HEB.out⟩, by simp only [intOf]; omega⟩
    · have d0 : decide ((k : Int) < 32) = false := decide_eq_false (by omega)
      obtain rfl : k = 32 := by omega
      have Hrow := Lib.hid (Blk.range (cs := sumC (sumAt bs i)) H5.out)
      go_wp2_with (first | (refine wpList_load_mid rfl 93 (.tmp 5) rfl X5 0 rfl (sumC (sumAt bs i)) _ Hrow.out und32 rfl (by rw [sumC_len]; kernel_rfl) ?_) | (refine wpList_store_row rfl 93 (.tmp 4) (.tmp 22) rfl w.heap.size (sumC (sumAt bs i)).toArray rfl rfl 93 _ H4.out (size32 _ (sum_size _)) ((zero32_size).trans (sum_size _).symm) (all_oneCell_toArray (oneB _)) ?_))
      refine bodyPost_ret (results_cell_row rfl _ _ w.heap.size 93 _ (0, 0) _ rfl (setRow_heap _ _ _ _ _ _ H4.out) und32 rfl (size32 _ (sum_size _))) rfl ⟨rfl, Below.setRow HBr.out (Nat.le_refl _) _⟩
set_option maxRecDepth 100000 in
set_option maxHeartbeats 4000000 in
theorem RParse_any (A : Option Addr) (L c : Nat) (bs : List UInt8) (w : World) (hr : Rd w 1 A L (bs.map byteV)) (_hlc : L ≤ c) (hL : L ≤ 8796093021000) :
    Calls Try.prog 59 #[.slice A L c] w fun e w' => (∃ (C : Option Addr) (n cc : Nat) (D : Option Addr) (m d : Nat), e = .returned (.tuple #[.agg (sgV (parS bs).1.i C n cc D m d).toArray, .int .i64 (parS bs).2]) ∧ n ≤ cc ∧ m ≤ d ∧ TRd w' 93 32 C n ((parS bs).1.ch.flatMap sumC) ∧ TRd w' 93 32 D m ((parS bs).1.pa.flatMap sumC)) ∧ Below w.heap.size w w' := by
  obtain ⟨i32, hi32, hz32, hs32, hy32⟩ := info_parts info32
  obtain ⟨i37, hi37, hz37, _, _⟩ := info_parts info37
  obtain ⟨d37, hd37, hrow37⟩ := und37
  have hbl := hr.len1
  go_enter Try.func59, Try.ntmps59
  go_upto_region 1 with (refine wpList_alloc0 rfl 95 rfl (sgV 0 none 0 0 none 0 0).toArray _ i37 hi37 hz37 rfl ?_; simp only [Act.put, List.setIfInBounds_toArray, List.set_cons_succ, List.set_cons_zero])
  obtain ⟨w1, hw1⟩ : ∃ v, v = w.alloc (.cells (sgV 0 none 0 0 none 0 0).toArray 95) := ⟨_, rfl⟩
  have hB1 : Below w.heap.size w w1 := by rw [hw1]; exact (Below.refl _ _).alloc (Nat.le_refl _) _
  have hX2 : Blk w1 w.heap.size 95 (sgV 0 none 0 0 none 0 0).toArray := by rw [hw1]; exact Blk.new _ _ _
  rw [← hw1]
  clear hw1
  have HB1 := Lib.hid hB1
  have HX2 := Lib.hid hX2
  have Hr := Lib.hid (hr.below hB1)
  have Hr0 := Lib.hid hr
  clear hB1 hX2 hr
  by_cases h2 : L < 2
  · have d0 : decide ((L : Int) < 2) = true := decide_eq_true (by omega)
    have hbad := Lib.hid (show parS bs = (sg0, 3) from par_bad (by unfold formP; exact decide_eq_false (fun hh => by have := hh.1; omega)))
    go_wp2_with (first | (refine wpList_buildN rfl 95 _ rfl [] rfl _ built37z ?_) | (refine wpList_store_row rfl 95 (.tmp 2) (.tmp 29) rfl w.heap.size (sgV 0 none 0 0 none 0 0).toArray rfl rfl 95 _ HX2.out (size37 _ rfl) rfl (sg_one _ _ _ _ _ _ _) ?_))
    refine bodyPost_ret (results_row_tmp rfl _ _ w.heap.size 95 (sgV 0 none 0 0 none 0 0).toArray (0, 0) _ rfl (setRow_heap _ _ _ _ _ _ HX2.out) hd37 hrow37 (size37 _ rfl)) rfl ⟨⟨none, 0, 0, none, 0, 0, by rw [hbad.out]; rfl, Nat.le_refl _, Nat.le_refl _, by rw [hbad.out]; exact trd_nilS _, by rw [hbad.out]; exact trd_nilS _⟩, Below.setRow HB1.out (Nat.le_refl _) _⟩
  have d0 : decide ((L : Int) < 2) = false := decide_eq_false (by omega)
  obtain ⟨bb, bo, rfl, hbc⟩ := Hr.out.2.2 (by omega)
  obtain ⟨b0, hb0⟩ : ∃ b, bs[0]? = some b := ⟨_, List.getElem?_eq_getElem (by omega)⟩
  obtain ⟨b1, hb1⟩ : ∃ b, bs[1]? = some b := ⟨_, List.getElem?_eq_getElem (by omega)⟩
  have e0 : bs.getD 0 0 = b0 := by rw [List.getD_eq_getElem?_getD, hb0]; rfl
  have e1 : bs.getD 1 0 = b1 := by rw [List.getD_eq_getElem?_getD, hb1]; rfl
  have g1 : w1.cell? ⟨bb, bo + 1, none⟩ = some (.int .u8 (b1.toNat : Int)) := hbc 1 _ (by rw [List.getElem?_map, hb1]; rfl)
  have g0 : w1.cell? ⟨bb, bo, none⟩ = some (.int .u8 (b0.toNat : Int)) := hbc 0 _ (by rw [List.getElem?_map, hb0]; rfl)
  have hp256 := b1.toNat_lt
  have hq256 := b0.toNat_lt
  obtain ⟨p, hp⟩ : ∃ p : Nat, p = b1.toNat := ⟨_, rfl⟩
  rw [← hp] at g1 hp256
  have HP := Lib.hid hp
  have E0 := Lib.hid e0
  have E1 := Lib.hid e1
  clear hbc hb0 hb1 e0 e1 hp
  have hl1 : (1 : Int) < (L : Int) := by omega
  have hl0 : (0 : Int) < (L : Int) := by omega
  by_cases h4 : 4 < p
  · have d4 : decide ((p : Int) > 4) = true := decide_eq_true (by omega)
    have d4' : decide ((4 : Int) < (p : Int)) = true := decide_eq_true (by omega)
    have hbad := Lib.hid (show parS bs = (sg0, 3) from par_bad (by unfold formP; rw [E1.out, ← HP.out]; exact decide_eq_false (fun hh => by have := hh.2.2.1; omega)))
    go_wp2_with (first | (refine wpList_buildN rfl 95 _ rfl [] rfl _ built37z ?_) | (refine wpList_store_row rfl 95 (.tmp 2) (.tmp 29) rfl w.heap.size (sgV 0 none 0 0 none 0 0).toArray rfl rfl 95 _ HX2.out (size37 _ rfl) rfl (sg_one _ _ _ _ _ _ _) ?_))
    refine bodyPost_ret (results_row_tmp rfl _ _ w.heap.size 95 (sgV 0 none 0 0 none 0 0).toArray (0, 0) _ rfl (setRow_heap _ _ _ _ _ _ HX2.out) hd37 hrow37 (size37 _ rfl)) rfl ⟨⟨none, 0, 0, none, 0, 0, by rw [hbad.out]; rfl, Nat.le_refl _, Nat.le_refl _, by rw [hbad.out]; exact trd_nilS _, by rw [hbad.out]; exact trd_nilS _⟩, Below.setRow HB1.out (Nat.le_refl _) _⟩
  have d4 : decide ((p : Int) > 4) = false := decide_eq_false (by omega)
  have d4' : decide ((4 : Int) < (p : Int)) = false := decide_eq_false (by omega)
  have wp : IntKind.i64.wrap (p : Int) = (p : Int) := by simp [IntKind.wrap, IntKind.bits, IntKind.signed]; omega
  have w0b : IntKind.i64.wrap (b0.toNat : Int) = (b0.toNat : Int) := by simp [IntKind.wrap, IntKind.bits, IntKind.signed]; omega
  have q1 : IntKind.i64.wrap (67 + (p : Int)) = 67 + (p : Int) := by simp [IntKind.wrap, IntKind.bits, IntKind.signed]; omega
  have q2 : IntKind.i64.wrap (32 * (67 + (p : Int))) = 32 * (67 + (p : Int)) := by simp [IntKind.wrap, IntKind.bits, IntKind.signed]; omega
  have q3 : IntKind.i64.wrap (2 + 32 * (67 + (p : Int))) = 2 + 32 * (67 + (p : Int)) := by simp [IntKind.wrap, IntKind.bits, IntKind.signed]; omega
  by_cases hgood : L = 2 + 32 * (67 + p)
  rotate_left
  · have dd : ((L : Int) == 2 + 32 * (67 + (p : Int))) = false := by rw [beq_eq_false_iff_ne]; omega
    have dd' : ((L : Int) != 2 + 32 * (67 + (p : Int))) = true := by rw [bne_iff_ne]; omega
    have hbad := Lib.hid (show parS bs = (sg0, 3) from par_bad (by unfold formP; rw [E1.out, ← HP.out, hbl]; exact decide_eq_false (fun hh => hgood hh.2.1)))
    go_wp2_with (first | (refine wpList_buildN rfl 95 _ rfl [] rfl _ built37z ?_) | (refine wpList_store_row rfl 95 (.tmp 2) (.tmp 29) rfl w.heap.size (sgV 0 none 0 0 none 0 0).toArray rfl rfl 95 _ HX2.out (size37 _ rfl) rfl (sg_one _ _ _ _ _ _ _) ?_))
    refine bodyPost_ret (results_row_tmp rfl _ _ w.heap.size 95 (sgV 0 none 0 0 none 0 0).toArray (0, 0) _ rfl (setRow_heap _ _ _ _ _ _ HX2.out) hd37 hrow37 (size37 _ rfl)) rfl ⟨⟨none, 0, 0, none, 0, 0, by rw [hbad.out]; rfl, Nat.le_refl _, Nat.le_refl _, by rw [hbad.out]; exact trd_nilS _, by rw [hbad.out]; exact trd_nilS _⟩, Below.setRow HB1.out (Nat.le_refl _) _⟩
  have hLa : L ≤ 2 + 32 * (67 + p) := by omega
  have hLb : 2 + 32 * (67 + p) ≤ L := by omega
  clear hgood
  have dd : ((L : Int) == 2 + 32 * (67 + (p : Int))) = true := by rw [beq_iff_eq]; omega
  have dd' : ((L : Int) != 2 + 32 * (67 + (p : Int))) = false := by rw [bne_eq_false_iff_eq]; omega
  have Hn4 := Lib.hid (Blk.new w1 95 (sgV 0 none 0 0 none 0 0).toArray)
  go_upto_region 4 with (first | (refine wpList_buildN rfl 95 _ rfl [(0, .int .i64 (b0.toNat : Int))] rfl _ (built37i _) ?_) | (refine wpList_alloc0 rfl 95 rfl (sgV 0 none 0 0 none 0 0).toArray _ i37 hi37 hz37 rfl ?_; simp only [Act.put, List.setIfInBounds_toArray, List.set_cons_succ, List.set_cons_zero]) | (refine wpList_store_row rfl 95 (.tmp 4) (.tmp 34) rfl w1.heap.size (sgV (b0.toNat : Int) none 0 0 none 0 0).toArray rfl rfl 95 _ Hn4.out (size37 _ rfl) rfl (sg_one _ _ _ _ _ _ _) ?_))
  obtain ⟨X4, hX4e⟩ : ∃ v, v = w1.heap.size := ⟨_, rfl⟩
  obtain ⟨wL, hwL⟩ : ∃ v, v = (w1.alloc (.cells (sgV 0 none 0 0 none 0 0).toArray 95)).setRow w1.heap.size (sgV (b0.toNat : Int) none 0 0 none 0 0).toArray := ⟨_, rfl⟩
  have hbL : Below w1.heap.size w1 wL := by rw [hwL]; exact Below.setRow ((Below.refl _ _).alloc (Nat.le_refl _) _) (Nat.le_refl _) _
  have hX4 : Blk wL X4 95 (sgV (b0.toNat : Int) none 0 0 none 0 0).toArray := by rw [hwL, hX4e]; exact setRow_heap _ _ _ _ _ _ Hn4.out
  rw [← hwL, ← hX4e]
  have hs2 : w.heap.size < X4 := by rw [hX4e]; exact HX2.out.lt
  have hs4 : X4 < wL.heap.size := hX4.lt
  have HG1 := Lib.hid ((hbL.cell (World.block_lt_of_cell? w1 _ g1)).trans g1)
  replace HX2 := Lib.hid (HX2.out.below hbL HX2.out.lt)
  replace Hr := Lib.hid (Hr.out.below hbL)
  have HBL := Lib.hid (HB1.out.trans (hbL.mono HB1.out.size))
  have HX4 := Lib.hid hX4
  clear hX4e hwL hbL hX4 Hn4 g0 g1 dd dd'
  go_upto_region 5 with fail
  clear q1 q2 q3 w0b hl0 d0 d4 d4'
  go_loopw [5] (fun v5 wr => ∃ (j : Nat) (v1 : Value), v5 = .int .i64 (j : Int) ∧ j ≤ 67 ∧ Blk wr X4 95 #[.int .i64 (b0.toNat : Int), v1, .slice none 0 0] ∧ AppZ wr wL.heap.size 93 32 v1 j ((sumsAt bs 0 j).flatMap sumC) ∧ KeptIn (fun b => b < wL.heap.size ∧ b ≠ X4) wL wr) (fun v5 _ => 67 - (intOf v5).toNat)
  case atStart => exact ⟨0, .slice none 0 0, rfl, by omega, HX4.out, AppZ.nil _, KeptIn.refl _ _⟩
  case round =>
    obtain ⟨j, v1, rfl, hj, h4r, ha, hkr⟩ := hrel
    have HX4r := Lib.hid h4r
    have Hkr := Lib.hid hkr
    have hszr := hkr.size
    have hrr := Hr.out.keptIn hkr (fun b off h0 e => by have := Hr0.out.lt (by omega) (show 0 < L by omega) e; exact ⟨by omega, by omega⟩)
    have Hrr := Lib.hid hrr
    clear h4r hkr hrr
    by_cases hlt : j < 67
    · have d0 : decide ((j : Int) < 67) = true := decide_eq_true (by omega)
      obtain ⟨x, hx⟩ : ∃ x, x = sumAt bs j := ⟨_, rfl⟩
      have hSx := Lib.hid hx
      clear hx
      go_upto_region 7 with fail
      refine wp_region_flow_tail 6 [39, 40, 41, 42, 43, 44] [(Spec.is (.pointer (some ⟨X4, 1, none⟩)), false), (Spec.is (v1), false), (Spec.is (.slice (some ⟨bb, bo, none⟩) L c), false), (Spec.is (.int .i64 (j : Int)), false), (Spec.is (.agg (sumC x).toArray), false), (spLit 93 (sumC x), false)] 70 (by kernel_rfl) (List.take_append_drop _ _) rfl (by kernel_rfl) (by kernel_rfl) (by kernel_rfl) (by decide) (by kernel_rfl) (by kernel_rfl) (fun _ _ d _ _ h => by cases d <;> exact h) rfl (by decide) rfl (by decide) (by kernel_rfl) ?_ ?_
      · refine ⟨?_, ?_, ?_, ?_, ?_, ?_, trivial⟩
        · intro a W hE hb hs
          have h4 : a.eval (.tmp 4) = .pointer (some ⟨X4, 0, none⟩) := hb 4 (by decide)
          refine flow0 rfl ?_
          intro K hK
          unfold Oper.wp execOp
          simp only [h4]
          simp [go_sem]
          exact hK _ _ ⟨Below.refl _ _, rfl, trivial⟩
        · intro a W hE hb hs
          have h39 : a.eval (.tmp 39) = .pointer (some ⟨X4, 1, none⟩) := hs 0 (by decide)
          refine flow0 rfl ?_
          have g0 : W.cell? ⟨X4, 1, none⟩ = some v1 := by rw [(HX4r.out.below (ext_below hE) HX4r.out.lt).cell]; rfl
          intro K hK
          unfold Oper.wp execOp
          simp only [h39]
          simp [go_sem, g0]
          exact hK _ _ ⟨Below.refl _ _, rfl, trivial⟩
        · intro a W hE hb hs
          have h0 : a.eval (.tmp 0) = .slice (some ⟨bb, bo, none⟩) L c := hb 0 (by decide)
          refine flow0 rfl ?_
          exact val_move _ rfl _ h0 ⟨rfl, trivial⟩
        · intro a W hE hb hs
          have h5 : a.eval (.tmp 5) = .int .i64 (j : Int) := hb 5 (by decide)
          refine flow0 rfl ?_
          exact val_move _ rfl _ h5 ⟨rfl, trivial⟩
        · intro a W hE hb hs
          have h41 : a.eval (.tmp 41) = .slice (some ⟨bb, bo, none⟩) L c := hs 2 (by decide)
          have h42 : a.eval (.tmp 42) = .int .i64 (j : Int) := hs 3 (by decide)
          refine flow0 rfl ?_
          exact val_call 63 _ _ rfl (by kernel_rfl) [.slice (some ⟨bb, bo, none⟩) L c, .int .i64 (j : Int)] (by show [a.eval (.tmp 41), a.eval (.tmp 42)] = _; rw [h41, h42]) ((RsumAt_any (some ⟨bb, bo, none⟩) L c bs j W (Hrr.out.below (ext_below hE)) (by omega) hL).mono (by rw [← hSx.out]; rintro e W' ⟨rfl, hb⟩; exact ⟨_, rfl, hb, rfl, trivial⟩))
        · intro a W hE hb hs
          have h43 : a.eval (.tmp 43) = .agg (sumC x).toArray := hs 4 (by decide)
          refine flow0 rfl ?_
          exact val_build1 rfl 34 93 (.tmp 43) rfl _ i32 _ 32 Try.underlying34 hi32 hz32 hs32 (by omega) (by omega) h43 (sum_size _) ⟨⟨_, rfl, Blk.new _ _ _⟩, trivial⟩
      · intro f W hb hT hp hd
        obtain ⟨B, eL, hB⟩ : ∃ B, f 44 = .slice (some ⟨B, 0, none⟩) 1 1 ∧ Blk W B 93 (sumC x).toArray := hT 5 (by decide)
        have ev : f 40 = v1 := hT 1 (by decide)
        have Hrd := Lib.hid (rd32_one hB)
        have Happ := Lib.hid (ha.below hb (Nat.le_refl _))
        have HbW := Lib.hid hb
        have hsW : wL.heap.size ≤ W.heap.size := Nat.le_trans hszr hb.size
        have HX4w := Lib.hid (HX4r.out.below hb HX4r.out.lt)
        have HownG := Lib.hid (show some X4 ≠ v1.ownBlock from fun e => by have := (Happ.out.lt X4 e.symm).1; omega)
        simp only [putV, List.foldl_cons, List.foldl_nil, Act.put, List.setIfInBounds_toArray, List.set_cons_succ, List.set_cons_zero]
        rw [eL, ev]
        clear hB hb hT hp hd eL ev ha
        simp only [List.drop_succ_cons, List.drop_zero]
        go_wp2_with (at_builtin; refine wpList_appz rfl (.tmp 40) (.tmp 44) 34 rfl 93 i32 (.agg zero32) 32 32 Try.underlying34 hi32 hz32 hs32 hy32 rfl (by omega) wL.heap.size hsW v1 _ _ rfl Happ.out (some ⟨B, 0, none⟩) 1 1 (sumC x) rfl Hrd.out (oneB _) (by unfold maxLen; omega) (by omega) ?_; intro v9 W9 ha9 hg9; have Hg9 := Lib.hid hg9; have Ha9 := Lib.hid ha9; obtain ⟨A9, c9, rfl, hc9, hr9⟩ := ha9.rd; have hGa := HX4w.out.kept hg9 HownG.out; have frG9 := hGa.frozen 1; have gf9 : W9.cell? ⟨X4, 1, none⟩ = some v1 := (by rw [hGa.cell]; rfl); have HGa := Lib.hid hGa; clear hg9 hGa ha9 hr9)
        have hk9 := (KeptIn.of_below ((Below.refl wL.heap.size W).grown Hg9.out hsW (fun g e => (Happ.out.lt g e).1)) (S := fun b => b < wL.heap.size ∧ b ≠ X4) (fun b hb => hb.1)).setAt (p := ⟨X4, 1, none⟩) (fun h => h.2 rfl) (.slice A9 (j + 1) c9)
        have hk0 := KeptIn.of_below (S := fun b => b < wL.heap.size ∧ b ≠ X4) HbW.out (fun b hb => by have := hb.1; omega)
        have hap9 := Ha9.out.setAt (i := 1) (u := .slice A9 (j + 1) c9) HGa.out (by decide)
        refine ⟨⟨j + 1, .slice A9 (j + 1) c9, by push_cast; rfl, by omega, heap_setCell_same W9 X4 1 _ 95 _ HGa.out, ?_, (Hkr.out.trans hk0).trans hk9⟩, by simp only [intOf]; omega⟩
        rw [sumsAt_succ, Nat.zero_add, ← hSx.out, List.flatMap_append]
        simpa using hap9
    · have d0 : decide ((j : Int) < 67) = false := decide_eq_false (by omega)
      have hje : j = 67 := by omega
      rw [hje] at ha
      clear hje hj
      obtain ⟨C, cc, rfl, hcc, _⟩ := ha.rd
      have HC := Lib.hid ha.trd
      have hCl := ha.lt
      obtain ⟨wM, hwM⟩ : ∃ wM, wM = wr := ⟨_, rfl⟩
      subst hwM
      have HX2M := Lib.hid (HX2.out.keptIn Hkr.out (show w.heap.size < wL.heap.size ∧ w.heap.size ≠ X4 by omega))
      have HBM := Lib.hid (HBL.out.trans (Hkr.out.below (fun b (hb : b < w.heap.size) => ⟨by omega, by omega⟩)))
      have HX4M := HX4r
      have HrM := Hrr
      have hsM : wL.heap.size ≤ wM.heap.size := hszr
      clear ha hCl HX4r Hrr Hkr hszr hlt
      go_upto_region 9 with fail
      clear d0
      go_loopw [6] (fun v6 wr => ∃ (j : Nat) (v2 : Value), v6 = .int .i64 (j : Int) ∧ j ≤ p ∧ Blk wr X4 95 #[.int .i64 (b0.toNat : Int), .slice C 67 cc, v2] ∧ AppZ wr wM.heap.size 93 32 v2 j ((sumsAt bs 67 j).flatMap sumC) ∧ KeptIn (fun b => b < wM.heap.size ∧ b ≠ X4) wM wr) (fun v6 _ => p - (intOf v6).toNat)
      case atStart => exact ⟨0, .slice none 0 0, rfl, by omega, HX4M.out, AppZ.nil _, KeptIn.refl _ _⟩
      case round =>
        obtain ⟨j, v2, rfl, hj, h4r, ha, hkr⟩ := hrel
        have HX4r := Lib.hid h4r
        have Hkr := Lib.hid hkr
        have hszr := hkr.size
        have hrr := HrM.out.keptIn hkr (fun b off h0 e => by have := Hr0.out.lt (by omega) (show 0 < L by omega) e; exact ⟨by omega, by omega⟩)
        have Hrr := Lib.hid hrr
        have g1 : wr.cell? ⟨bb, bo + 1, none⟩ = some (.int .u8 (p : Int)) := by
          obtain ⟨b', o', u, e1, e2, e3⟩ := hrr.at_ (k := 1) (by omega)
          cases e1
          have : bs[1]? = some b1 := by
            have h := E1.out
            rw [List.getD_eq_getElem?_getD, List.getElem?_eq_getElem (by omega)] at h
            rw [List.getElem?_eq_getElem (by omega)]
            exact congrArg some h
          rw [this] at e2
          cases e2
          rw [HP.out]; exact e3
        clear h4r hkr hrr
        by_cases hlt : j < p
        · have d0 : decide ((j : Int) < (p : Int)) = true := decide_eq_true (by omega)
          have w67 : IntKind.i64.wrap (67 + (j : Int)) = ((67 + j : Nat) : Int) := by simp [IntKind.wrap, IntKind.bits, IntKind.signed]; omega
          obtain ⟨x, hx⟩ : ∃ x, x = sumAt bs (67 + j) := ⟨_, rfl⟩
          have hSx := Lib.hid hx
          clear hx
          go_upto_region 11 with fail
          clear g1
          refine wp_region_flow_tail 7 [55, 56, 57, 58, 59, 60, 61] [(Spec.is (.pointer (some ⟨X4, 2, none⟩)), false), (Spec.is (v2), false), (Spec.is (.slice (some ⟨bb, bo, none⟩) L c), false), (Spec.is (.int .i64 (j : Int)), false), (Spec.is (.int .i64 ((67 + j : Nat) : Int)), false), (Spec.is (.agg (sumC x).toArray), false), (spLit 93 (sumC x), false)] 70 (by kernel_rfl) (List.take_append_drop _ _) rfl (by kernel_rfl) (by kernel_rfl) (by kernel_rfl) (by decide) (by kernel_rfl) (by kernel_rfl) (fun _ _ d _ _ h => by cases d <;> exact h) rfl (by decide) rfl (by decide) (by kernel_rfl) ?_ ?_
          · refine ⟨?_, ?_, ?_, ?_, ?_, ?_, ?_, trivial⟩
            · intro a W hE hb hs
              have h4 : a.eval (.tmp 4) = .pointer (some ⟨X4, 0, none⟩) := hb 4 (by decide)
              refine flow0 rfl ?_
              intro K hK
              unfold Oper.wp execOp
              simp only [h4]
              simp [go_sem]
              exact hK _ _ ⟨Below.refl _ _, rfl, trivial⟩
            · intro a W hE hb hs
              have h55 : a.eval (.tmp 55) = .pointer (some ⟨X4, 2, none⟩) := hs 0 (by decide)
              refine flow0 rfl ?_
              have g0 : W.cell? ⟨X4, 2, none⟩ = some v2 := by rw [(HX4r.out.below (ext_below hE) HX4r.out.lt).cell]; rfl
              intro K hK
              unfold Oper.wp execOp
              simp only [h55]
              simp [go_sem, g0]
              exact hK _ _ ⟨Below.refl _ _, rfl, trivial⟩
            · intro a W hE hb hs
              have h0 : a.eval (.tmp 0) = .slice (some ⟨bb, bo, none⟩) L c := hb 0 (by decide)
              refine flow0 rfl ?_
              exact val_move _ rfl _ h0 ⟨rfl, trivial⟩
            · intro a W hE hb hs
              have h6 : a.eval (.tmp 6) = .int .i64 (j : Int) := hb 6 (by decide)
              refine flow0 rfl ?_
              exact val_move _ rfl _ h6 ⟨rfl, trivial⟩
            · intro a W hE hb hs
              have h58 : a.eval (.tmp 58) = .int .i64 (j : Int) := hs 3 (by decide)
              refine flow0 rfl ?_
              intro K hK
              unfold Oper.wp execOp
              simp only [h58, BigFrame.eval_const]
              simp [go_sem, w67]
              exact hK _ _ ⟨Below.refl _ _, rfl, trivial⟩
            · intro a W hE hb hs
              have h57 : a.eval (.tmp 57) = .slice (some ⟨bb, bo, none⟩) L c := hs 2 (by decide)
              have h59 : a.eval (.tmp 59) = .int .i64 ((67 + j : Nat) : Int) := hs 4 (by decide)
              refine flow0 rfl ?_
              exact val_call 63 _ _ rfl (by kernel_rfl) [.slice (some ⟨bb, bo, none⟩) L c, .int .i64 ((67 + j : Nat) : Int)] (by show [a.eval (.tmp 57), a.eval (.tmp 59)] = _; rw [h57, h59]) ((RsumAt_any (some ⟨bb, bo, none⟩) L c bs (67 + j) W (Hrr.out.below (ext_below hE)) (by omega) hL).mono (by rw [← hSx.out]; rintro e W' ⟨rfl, hb⟩; exact ⟨_, rfl, hb, rfl, trivial⟩))
            · intro a W hE hb hs
              have h60 : a.eval (.tmp 60) = .agg (sumC x).toArray := hs 5 (by decide)
              refine flow0 rfl ?_
              exact val_build1 rfl 34 93 (.tmp 60) rfl _ i32 _ 32 Try.underlying34 hi32 hz32 hs32 (by omega) (by omega) h60 (sum_size _) ⟨⟨_, rfl, Blk.new _ _ _⟩, trivial⟩
          · intro f W hb hT hp hd
            obtain ⟨B, eL, hB⟩ : ∃ B, f 61 = .slice (some ⟨B, 0, none⟩) 1 1 ∧ Blk W B 93 (sumC x).toArray := hT 6 (by decide)
            have ev : f 56 = v2 := hT 1 (by decide)
            have Hrd := Lib.hid (rd32_one hB)
            have Happ := Lib.hid (ha.below hb (Nat.le_refl _))
            have HbW := Lib.hid hb
            have hsW : wM.heap.size ≤ W.heap.size := Nat.le_trans hszr hb.size
            have HX4w := Lib.hid (HX4r.out.below hb HX4r.out.lt)
            have HownG := Lib.hid (show some X4 ≠ v2.ownBlock from fun e => by have := (Happ.out.lt X4 e.symm).1; omega)
            simp only [putV, List.foldl_cons, List.foldl_nil, Act.put, List.setIfInBounds_toArray, List.set_cons_succ, List.set_cons_zero]
            rw [eL, ev]
            clear hB hb hT hp hd eL ev ha
            simp only [List.drop_succ_cons, List.drop_zero]
            go_wp2_with (at_builtin; refine wpList_appz rfl (.tmp 56) (.tmp 61) 34 rfl 93 i32 (.agg zero32) 32 32 Try.underlying34 hi32 hz32 hs32 hy32 rfl (by omega) wM.heap.size hsW v2 _ _ rfl Happ.out (some ⟨B, 0, none⟩) 1 1 (sumC x) rfl Hrd.out (oneB _) (by unfold maxLen; omega) (by omega) ?_; intro v9 W9 ha9 hg9; have Hg9 := Lib.hid hg9; have Ha9 := Lib.hid ha9; obtain ⟨A9, c9, rfl, hc9, hr9⟩ := ha9.rd; have hGa := HX4w.out.kept hg9 HownG.out; have frG9 := hGa.frozen 2; have gf9 : W9.cell? ⟨X4, 2, none⟩ = some v2 := (by rw [hGa.cell]; rfl); have HGa := Lib.hid hGa; clear hg9 hGa ha9 hr9)
            have hk9 := (KeptIn.of_below ((Below.refl wM.heap.size W).grown Hg9.out hsW (fun g e => (Happ.out.lt g e).1)) (S := fun b => b < wM.heap.size ∧ b ≠ X4) (fun b hb => hb.1)).setAt (p := ⟨X4, 2, none⟩) (fun h => h.2 rfl) (.slice A9 (j + 1) c9)
            have hk0 := KeptIn.of_below (S := fun b => b < wM.heap.size ∧ b ≠ X4) HbW.out (fun b hb => by have := hb.1; omega)
            have hap9 := Ha9.out.setAt (i := 2) (u := .slice A9 (j + 1) c9) HGa.out (by decide)
            refine ⟨⟨j + 1, .slice A9 (j + 1) c9, by push_cast; rfl, by omega, heap_setCell_same W9 X4 2 _ 95 _ HGa.out, ?_, (Hkr.out.trans hk0).trans hk9⟩, by simp only [intOf]; omega⟩
            rw [sumsAt_succ, ← hSx.out, List.flatMap_append]
            simpa using hap9
        · have d0 : decide ((j : Int) < (p : Int)) = false := decide_eq_false (by omega)
          have hjp : j = p := by omega
          rw [hjp] at ha
          obtain ⟨D, d, rfl, hdd, _⟩ := ha.rd
          have HD := Lib.hid ha.trd
          have Hsg := Lib.hid (Blk.range (cs := sgV (b0.toNat : Int) C 67 cc D p d) HX4r.out)
          have HX2r := Lib.hid (HX2M.out.keptIn Hkr.out (show w.heap.size < wM.heap.size ∧ w.heap.size ≠ X4 by omega))
          have HBr := Lib.hid (HBM.out.trans (Hkr.out.below (fun b (hb : b < w.heap.size) => ⟨by omega, by omega⟩)))
          have HCr := Lib.hid (HC.out.keptIn Hkr.out (fun b cur hb => ⟨hb.lt, hb.ne HX4M.out (by decide)⟩))
          clear ha hjp
          go_wp2_with (refine wpList_load_mid rfl 95 (.tmp 4) rfl X4 0 rfl (sgV (b0.toNat : Int) C 67 cc D p d) d37 Hsg.out hd37 hrow37 (by rw [sgV_len]; kernel_rfl) ?_)
          refine (RFormed_any (b0.toNat : Int) C 67 cc D p d wr).mono ?_
          rintro e wf ⟨rfl, hbf⟩
          have HX2f := Lib.hid (HX2r.out.below hbf HX2r.out.lt)
          have HBf := Lib.hid (HBr.out.trans (hbf.mono HBr.out.size))
          have Hsf := Lib.hid (Blk.range (cs := sgV (b0.toNat : Int) C 67 cc D p d) (HX4r.out.below hbf HX4r.out.lt))
          have HCf := Lib.hid (HCr.out.below hbf)
          have HDf := Lib.hid (HD.out.below hbf)
          have hfe : formP bs = formB (b0.toNat : Int) 67 p := by rw [form_eq (by rw [E1.out, ← HP.out]; omega), E0.out, E1.out, HP.out]
          clear hbf Hsg HX2r HBr HCr HD g1
          by_cases hf : formB (b0.toNat : Int) 67 p = true
          · rw [hf]
            have hpar := Lib.hid (show parS bs = (⟨(b0.toNat : Int), sumsAt bs 0 67, sumsAt bs 67 p⟩, 0) by unfold parS; rw [if_pos (by rw [hfe, hf]), E0.out, E1.out, HP.out])
            clear hfe hf
            go_wp2_with (first | (refine wpList_load_mid rfl 95 (.tmp 4) rfl X4 0 rfl (sgV (b0.toNat : Int) C 67 cc D p d) d37 Hsf.out hd37 hrow37 (by rw [sgV_len]; kernel_rfl) ?_) | (refine wpList_store_row rfl 95 (.tmp 2) (.tmp 69) rfl w.heap.size (sgV (b0.toNat : Int) C 67 cc D p d).toArray rfl rfl 95 _ HX2f.out (size37 _ rfl) rfl (sg_one _ _ _ _ _ _ _) ?_))
            have hkx := (KeptIn.refl (fun b => b ≠ w.heap.size) wf).setRow (g := w.heap.size) (fun h => h rfl) (sgV (b0.toNat : Int) C 67 cc D p d).toArray
            refine bodyPost_ret (results_row_tmp rfl _ _ w.heap.size 95 (sgV (b0.toNat : Int) C 67 cc D p d).toArray (0, 0) _ rfl (setRow_heap _ _ _ _ _ _ HX2f.out) hd37 hrow37 (size37 _ rfl)) rfl ⟨⟨C, 67, cc, D, p, d, by rw [hpar.out]; rfl, hcc, hdd, by rw [hpar.out]; exact HCf.out.kept HX2f.out (by decide) hkx, by rw [hpar.out]; exact HDf.out.kept HX2f.out (by decide) hkx⟩, Below.setRow HBf.out (Nat.le_refl _) _⟩
          · have hf' : formB (b0.toNat : Int) 67 p = false := by simpa using hf
            rw [hf']
            have hbad := Lib.hid (show parS bs = (sg0, 3) from par_bad (by rw [hfe]; exact hf'))
            go_wp2_with (first | (refine wpList_buildN rfl 95 _ rfl [] rfl _ built37z ?_) | (refine wpList_store_row rfl 95 (.tmp 2) (.tmp 68) rfl w.heap.size (sgV 0 none 0 0 none 0 0).toArray rfl rfl 95 _ HX2f.out (size37 _ rfl) rfl (sg_one _ _ _ _ _ _ _) ?_))
            refine bodyPost_ret (results_row_tmp rfl _ _ w.heap.size 95 (sgV 0 none 0 0 none 0 0).toArray (0, 0) _ rfl (setRow_heap _ _ _ _ _ _ HX2f.out) hd37 hrow37 (size37 _ rfl)) rfl ⟨⟨none, 0, 0, none, 0, 0, by rw [hbad.out]; rfl, Nat.le_refl _, Nat.le_refl _, by rw [hbad.out]; exact trd_nilS _, by rw [hbad.out]; exact trd_nilS _⟩, Below.setRow HBf.out (Nat.le_refl _) _⟩
end Go.Proofs.Yteofgkdpknaapaa
