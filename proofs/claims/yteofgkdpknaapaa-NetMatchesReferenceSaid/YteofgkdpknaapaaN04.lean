/- Out of chapter 16 (printed by need.py). -/
import Derived.Test.YteofgkdpknaapaaN03
namespace Go.Proofs.Yteofgkdpknaapaa
open Go.RowKit Go.Sort

theorem run_slice_bytes (b off L c i : Nat) (hi : i < L) (hc : L ≤ c) (w : World) : (Instr.slice 26 (.slice (some ⟨b, off, none⟩) L c) (some (.int .i64 (i : Int))) none none).run Try.prog w = .ok (.slice (some ⟨b, off + i, none⟩) (L - i) (c - i)) w := by
  obtain ⟨iE, hi'⟩ : ∃ i, Try.prog.info? 5 = some i := by
    obtain ⟨i0, hi0, _⟩ := info_parts info5
    exact ⟨i0, hi0⟩
  rw [run_slice_l (P := Try.prog) w 26 _ L c und22 .i64 (i : Int) (by omega) (by omega), elem22, run_sizeOf w hi', size22']
  simp only [Result.andThen_ok, sliced, Int.toNat_natCast, Option.map_some]
  rw [if_neg (by omega)]
  have hadd : (⟨b, off, none⟩ : Addr).add (i * 1) = ⟨b, off + i, none⟩ := by unfold Addr.add; split <;> simp_all
  rw [hadd]
theorem form_eq {bs : List UInt8} (h : bs.length = 2 + 32 * (67 + (bs.getD 1 0).toNat)) : formP bs = formB ((bs.getD 0 0).toNat : Int) 67 (bs.getD 1 0).toNat := by
  unfold formP formB
  refine decide_eq_decide.2 ⟨fun hh => ⟨rfl, hh.2.2.1, by omega, ?_⟩, fun hh => ⟨by omega, h, hh.2.1, ?_⟩⟩
  · have := hh.2.2.2
    exact_mod_cast this
  · have := hh.2.2.2
    exact_mod_cast this
def rowsF (f : Nat → Sum32) (a k : Nat) : List Sum32 := (List.range k).map fun i => f (a + i)
theorem rowsF_succ (f : Nat → Sum32) (a k : Nat) : rowsF f a (k + 1) = rowsF f a k ++ [f (a + k)] := by simp [rowsF, List.range_succ]
/-- What holds of the two rows, in a round. -/
def PRow (f : Nat → Sum32) (base : Nat) (j : Nat) (v1 v2 : Value) (W : World) : Prop :=
  (j ≤ 67 ∧ v2 = .slice none 0 0 ∧ AppZ W base 93 32 v1 j ((rowsF f 0 j).flatMap sumC)) ∨
  (67 < j ∧ ∃ base2, base ≤ base2 ∧ base2 ≤ W.heap.size ∧ (∀ g, v1.ownBlock = some g → g < base2) ∧ AppZ W base 93 32 v1 67 ((rowsF f 0 67).flatMap sumC) ∧ AppZ W base2 93 32 v2 (j - 67) ((rowsF f 67 (j - 67)).flatMap sumC))
theorem PRow.fst {f : Nat → Sum32} {base j : Nat} {v1 v2 : Value} {W : World} (h : PRow f base j v1 v2 W) (hj : j ≤ 67) : v2 = .slice none 0 0 ∧ AppZ W base 93 32 v1 j ((rowsF f 0 j).flatMap sumC) := by
  rcases h with ⟨_, h1, h2⟩ | ⟨h, _⟩
  · exact ⟨h1, h2⟩
  · omega
theorem PRow.snd {f : Nat → Sum32} {base j : Nat} {v1 v2 : Value} {W : World} (h : PRow f base j v1 v2 W) (hj : 67 ≤ j) (hb : base ≤ W.heap.size) : ∃ base2, base ≤ base2 ∧ base2 ≤ W.heap.size ∧ (∀ g, v1.ownBlock = some g → g < base2) ∧ AppZ W base 93 32 v1 67 ((rowsF f 0 67).flatMap sumC) ∧ AppZ W base2 93 32 v2 (j - 67) ((rowsF f 67 (j - 67)).flatMap sumC) := by
  rcases h with ⟨h0, rfl, h2⟩ | ⟨_, h⟩
  · obtain rfl : j = 67 := by omega
    exact ⟨W.heap.size, hb, Nat.le_refl _, fun g hg => (h2.lt g hg).2, h2, AppZ.nil W⟩
  · exact h
theorem PRow.below {f : Nat → Sum32} {base j : Nat} {v1 v2 : Value} {W W' : World} (h : PRow f base j v1 v2 W) (hb : Below W.heap.size W W') : PRow f base j v1 v2 W' := by
  rcases h with ⟨h0, h1, h2⟩ | ⟨h0, base2, q1, q2, q3, q4, q5⟩
  · exact .inl ⟨h0, h1, h2.below hb (Nat.le_refl _)⟩
  · exact .inr ⟨h0, base2, q1, Nat.le_trans q2 hb.size, q3, q4.below hb (Nat.le_refl _), q5.below hb (Nat.le_refl _)⟩
set_option maxRecDepth 100000 in
set_option maxHeartbeats 4000000 in
theorem Parse_any (A : Option Addr) (L c : Nat) (bs : List UInt8) (w : World) (hr : Rd w 1 A L (bs.map byteV)) (hlc : L ≤ c) (hL : L ≤ 8796093021000) :
    Calls Try.prog 62 #[.slice A L c] w fun e w' => (∃ (C : Option Addr) (n cc : Nat) (D : Option Addr) (m d : Nat), e = .returned (.tuple #[.agg (sgV (parS bs).1.i C n cc D m d).toArray, .int .i64 (parS bs).2]) ∧ n ≤ cc ∧ m ≤ d ∧ TRd w' 93 32 C n ((parS bs).1.ch.flatMap sumC) ∧ TRd w' 93 32 D m ((parS bs).1.pa.flatMap sumC)) ∧ Below w.heap.size w w' := by
  obtain ⟨i32, hi32, hz32, hs32, hy32⟩ := info_parts info32
  obtain ⟨i37, hi37, hz37, _, _⟩ := info_parts info37
  obtain ⟨d37, hd37, hrow37⟩ := und37
  have hbl := hr.len1
  go_enter Try.func62, Try.ntmps62
  go_upto_region 1 with (refine wpList_alloc0 rfl 95 rfl (sgV 0 none 0 0 none 0 0).toArray _ i37 hi37 hz37 rfl ?_; simp only [Act.put, List.setIfInBounds_toArray, List.set_cons_succ, List.set_cons_zero])
  obtain ⟨w1, hw1⟩ : ∃ v, v = w.alloc (.cells (sgV 0 none 0 0 none 0 0).toArray 95) := ⟨_, rfl⟩
  have hB1 : Below w.heap.size w w1 := by rw [hw1]; exact (Below.refl _ _).alloc (Nat.le_refl _) _
  have hX2 : Blk w1 w.heap.size 95 (sgV 0 none 0 0 none 0 0).toArray := by rw [hw1]; exact Blk.new _ _ _
  rw [← hw1]
  clear hw1
  have HB1 := Lib.hid hB1
  have HX2 := Lib.hid hX2
  have Hr := Lib.hid (hr.below hB1)
  have Hr0 := Lib.hid hr
  clear hB1 hX2 hr
  by_cases h2 : L < 2
  · have d0 : decide ((L : Int) < 2) = true := decide_eq_true (by omega)
    have hbad := Lib.hid (show parS bs = (sg0, 3) from par_bad (by unfold formP; exact decide_eq_false (fun hh => by have := hh.1; omega)))
    go_wp2_with (first | (refine wpList_buildN rfl 95 _ rfl [] rfl _ built37z ?_) | (refine wpList_store_row rfl 95 (.tmp 2) (.tmp 22) rfl w.heap.size (sgV 0 none 0 0 none 0 0).toArray rfl rfl 95 _ HX2.out (size37 _ rfl) rfl (sg_one _ _ _ _ _ _ _) ?_))
    refine bodyPost_ret (results_row_tmp rfl _ _ w.heap.size 95 (sgV 0 none 0 0 none 0 0).toArray (0, 0) _ rfl (setRow_heap _ _ _ _ _ _ HX2.out) hd37 hrow37 (size37 _ rfl)) rfl ⟨⟨none, 0, 0, none, 0, 0, by rw [hbad.out]; rfl, Nat.le_refl _, Nat.le_refl _, by rw [hbad.out]; exact trd_nilS _, by rw [hbad.out]; exact trd_nilS _⟩, Below.setRow HB1.out (Nat.le_refl _) _⟩
  have d0 : decide ((L : Int) < 2) = false := decide_eq_false (by omega)
  obtain ⟨bb, bo, rfl, hbc⟩ := Hr.out.2.2 (by omega)
  obtain ⟨b0, hb0⟩ : ∃ b, bs[0]? = some b := ⟨_, List.getElem?_eq_getElem (by omega)⟩
  obtain ⟨b1, hb1⟩ : ∃ b, bs[1]? = some b := ⟨_, List.getElem?_eq_getElem (by omega)⟩
  have e0 : bs.getD 0 0 = b0 := by rw [List.getD_eq_getElem?_getD, hb0]; rfl
  have e1 : bs.getD 1 0 = b1 := by rw [List.getD_eq_getElem?_getD, hb1]; rfl
  have g1 : w1.cell? ⟨bb, bo + 1, none⟩ = some (.int .u8 (b1.toNat : Int)) := hbc 1 _ (by rw [List.getElem?_map, hb1]; rfl)
  have g0 : w1.cell? ⟨bb, bo, none⟩ = some (.int .u8 (b0.toNat : Int)) := hbc 0 _ (by rw [List.getElem?_map, hb0]; rfl)
  have hp256 := b1.toNat_lt
  have hq256 := b0.toNat_lt
  obtain ⟨p, hp⟩ : ∃ p : Nat, p = b1.toNat := ⟨_, rfl⟩
  rw [← hp] at g1 hp256
  have HP := Lib.hid hp
  have E0 := Lib.hid e0
  have E1 := Lib.hid e1
  clear hbc hb0 hb1 e0 e1 hp
  have hl1 : (1 : Int) < (L : Int) := by omega
  have hl0 : (0 : Int) < (L : Int) := by omega
  have wp : IntKind.i64.wrap (p : Int) = (p : Int) := by simp [IntKind.wrap, IntKind.bits, IntKind.signed]; omega
  have w0b : IntKind.i64.wrap (b0.toNat : Int) = (b0.toNat : Int) := by simp [IntKind.wrap, IntKind.bits, IntKind.signed]; omega
  have q1 : IntKind.i64.wrap (67 + (p : Int)) = 67 + (p : Int) := by simp [IntKind.wrap, IntKind.bits, IntKind.signed]; omega
  have q2 : IntKind.i64.wrap (32 * (67 + (p : Int))) = 32 * (67 + (p : Int)) := by simp [IntKind.wrap, IntKind.bits, IntKind.signed]; omega
  have q3 : IntKind.i64.wrap (2 + 32 * (67 + (p : Int))) = 2 + 32 * (67 + (p : Int)) := by simp [IntKind.wrap, IntKind.bits, IntKind.signed]; omega
  by_cases hgood : L = 2 + 32 * (67 + p)
  rotate_left
  · have dd : ((L : Int) == 2 + 32 * (67 + (p : Int))) = false := by rw [beq_eq_false_iff_ne]; omega
    have dd' : ((L : Int) != 2 + 32 * (67 + (p : Int))) = true := by rw [bne_iff_ne]; omega
    have hbad := Lib.hid (show parS bs = (sg0, 3) from par_bad (by unfold formP; rw [E1.out, ← HP.out, hbl]; exact decide_eq_false (fun hh => hgood hh.2.1)))
    go_wp2_with (first | (refine wpList_buildN rfl 95 _ rfl [] rfl _ built37z ?_) | (refine wpList_store_row rfl 95 (.tmp 2) (.tmp 22) rfl w.heap.size (sgV 0 none 0 0 none 0 0).toArray rfl rfl 95 _ HX2.out (size37 _ rfl) rfl (sg_one _ _ _ _ _ _ _) ?_))
    refine bodyPost_ret (results_row_tmp rfl _ _ w.heap.size 95 (sgV 0 none 0 0 none 0 0).toArray (0, 0) _ rfl (setRow_heap _ _ _ _ _ _ HX2.out) hd37 hrow37 (size37 _ rfl)) rfl ⟨⟨none, 0, 0, none, 0, 0, by rw [hbad.out]; rfl, Nat.le_refl _, Nat.le_refl _, by rw [hbad.out]; exact trd_nilS _, by rw [hbad.out]; exact trd_nilS _⟩, Below.setRow HB1.out (Nat.le_refl _) _⟩
  have hLa : L ≤ 2 + 32 * (67 + p) := by omega
  have hLb : 2 + 32 * (67 + p) ≤ L := by omega
  clear hgood
  have dd : ((L : Int) == 2 + 32 * (67 + (p : Int))) = true := by rw [beq_iff_eq]; omega
  have dd' : ((L : Int) != 2 + 32 * (67 + (p : Int))) = false := by rw [bne_eq_false_iff_eq]; omega
  have Hn4 := Lib.hid (Blk.new w1 95 (sgV 0 none 0 0 none 0 0).toArray)
  go_upto_region 4 with (first | (refine wpList_buildN rfl 95 _ rfl [(0, .int .i64 (b0.toNat : Int))] rfl _ (built37i _) ?_) | (refine wpList_alloc0 rfl 95 rfl (sgV 0 none 0 0 none 0 0).toArray _ i37 hi37 hz37 rfl ?_; simp only [Act.put, List.setIfInBounds_toArray, List.set_cons_succ, List.set_cons_zero]) | (refine wpList_store_row rfl 95 (.tmp 4) (.tmp 27) rfl w1.heap.size (sgV (b0.toNat : Int) none 0 0 none 0 0).toArray rfl rfl 95 _ Hn4.out (size37 _ rfl) rfl (sg_one _ _ _ _ _ _ _) ?_))
  obtain ⟨X4, hX4e⟩ : ∃ v, v = w1.heap.size := ⟨_, rfl⟩
  obtain ⟨wL, hwL⟩ : ∃ v, v = (w1.alloc (.cells (sgV 0 none 0 0 none 0 0).toArray 95)).setRow w1.heap.size (sgV (b0.toNat : Int) none 0 0 none 0 0).toArray := ⟨_, rfl⟩
  have hbL : Below w1.heap.size w1 wL := by rw [hwL]; exact Below.setRow ((Below.refl _ _).alloc (Nat.le_refl _) _) (Nat.le_refl _) _
  have hX4 : Blk wL X4 95 (sgV (b0.toNat : Int) none 0 0 none 0 0).toArray := by rw [hwL, hX4e]; exact setRow_heap _ _ _ _ _ _ Hn4.out
  rw [← hwL, ← hX4e]
  have hs2 : w.heap.size < X4 := by rw [hX4e]; exact HX2.out.lt
  have hs4 : X4 < wL.heap.size := hX4.lt
  have g1 := (hbL.cell (World.block_lt_of_cell? w1 _ g1)).trans g1
  replace HX2 := Lib.hid (HX2.out.below hbL HX2.out.lt)
  replace Hr := Lib.hid (Hr.out.below hbL)
  have HBL := Lib.hid (HB1.out.trans (hbL.mono HB1.out.size))
  have HX4 := Lib.hid hX4
  clear hX4e hwL hbL hX4 Hn4 g0 dd dd'
  go_upto_region 5 with fail
  clear g1 wp q1 q2 q3 w0b hl1 hl0 d0
  go_loopw [5, 6, 33] (fun _ _ v33 wr => ∃ (j : Nat) (v1 v2 : Value), v33 = .int .i64 (j : Int) ∧ j ≤ 67 + p ∧ Blk wr X4 95 #[.int .i64 (b0.toNat : Int), v1, v2] ∧ PRow (sumAt bs) wL.heap.size j v1 v2 wr ∧ KeptIn (fun b => b < wL.heap.size ∧ b ≠ X4) wL wr) (fun _ _ v33 _ => 67 + p - (intOf v33).toNat)
  case atStart => exact ⟨0, .slice none 0 0, .slice none 0 0, rfl, by omega, HX4.out, .inl ⟨by omega, rfl, AppZ.nil _⟩, KeptIn.refl _ _⟩
  case round =>
    obtain ⟨j, v1, v2, rfl, hj, h4, hrow, hkr⟩ := hrel
    have HX4r := Lib.hid h4
    have Hrow := Lib.hid hrow
    have Hkr := Lib.hid hkr
    have hszr := hkr.size
    have hrr := Hr.out.keptIn hkr (fun b off h0 e => by have := Hr0.out.lt (by omega) (show 0 < L by omega) e; exact ⟨by omega, by omega⟩)
    have Hrr := Lib.hid hrr
    clear h4 hrow hkr hrr
    by_cases hlt : j < 67 + p
    · have d0 : decide ((j : Int) < 67 + (p : Int)) = true := decide_eq_true (by omega)
      obtain ⟨lo, hlo⟩ : ∃ lo : Nat, lo = 2 + 32 * j := ⟨_, rfl⟩
      have w1j : IntKind.i64.wrap (32 * (j : Int)) = 32 * (j : Int) := by simp [IntKind.wrap, IntKind.bits, IntKind.signed]; omega
      have w2j : IntKind.i64.wrap (2 + 32 * (j : Int)) = (lo : Int) := by simp [IntKind.wrap, IntKind.bits, IntKind.signed]; omega
      have hsl := run_slice_bytes bb bo L c lo (by omega) hlc
      have haa : ∀ w, (Instr.arrayAt 93 (.slice (some ⟨bb, bo + lo, none⟩) (L - lo) (c - lo))).run Try.prog w = .ok (.pointer (some ⟨bb, bo + lo, none⟩)) w := fun w => run_arrayAt (h := und32) (hn := show 32 ≤ L - lo by omega) ..
      obtain ⟨x, hx⟩ : ∃ x, x = sumAt bs j := ⟨_, rfl⟩
      have hxr : wr.rangeAt bb (bo + lo) (sumC x) := by
        obtain ⟨b', o', e, hc⟩ := Hrr.out.2.2 (by omega)
        cases e
        intro i v hv
        rw [hx] at hv
        unfold sumC at hv
        rw [sumAt_val (by omega), List.getElem?_map, List.getElem?_take] at hv
        split at hv
        · rw [List.getElem?_drop, ← hlo] at hv
          rw [Nat.add_assoc]
          exact hc (lo + i) v (by rw [List.getElem?_map]; exact hv)
        · cases hv
      have Hxg := Lib.hid hxr
      obtain ⟨wx, hwx⟩ : ∃ v, v = (wr.alloc (.cells zero32 93)).setRow wr.heap.size (sumC x).toArray := ⟨_, rfl⟩
      obtain ⟨X6, hX6⟩ : ∃ v, v = wr.heap.size := ⟨_, rfl⟩
      have hN6 : Blk (wr.alloc (.cells zero32 93)) X6 93 zero32 := by rw [hX6]; exact Blk.new _ _ _
      have hx6 : Blk wx X6 93 (sumC x).toArray := by rw [hwx, hX6]; exact setRow_heap _ _ _ _ _ _ (by rw [← hX6]; exact hN6)
      have hbx : Below wr.heap.size wr wx := by rw [hwx]; exact Below.setRow ((Below.refl _ _).alloc (Nat.le_refl _) _) (Nat.le_refl _) _
      have HN6 := Lib.hid hN6
      have Hx6 := Lib.hid (Blk.range hx6)
      have HWX := Lib.hid hwx
      have HEX := Lib.hid hX6
      have hSx := Lib.hid hx
      have hLo := Lib.hid hlo
      replace HX4r := Lib.hid (HX4r.out.below hbx HX4r.out.lt)
      replace Hrow := Lib.hid (Hrow.out.below hbx)
      replace Hkr := Lib.hid (Hkr.out.trans (KeptIn.of_below hbx (fun b hb => by have := hb.1; omega)))
      have hszx : wL.heap.size ≤ wx.heap.size := Hkr.out.size
      clear hx hxr hwx hX6 hN6 hx6 hbx hlo
      go_upto_region 8 with (first | (refine wpList_load_mid rfl 93 (.tmp 41) rfl bb (bo + lo) rfl (sumC x) _ Hxg.out und32 rfl (by rw [sumC_len]; kernel_rfl) ?_) | (refine wpList_alloc0 rfl 93 rfl zero32 _ i32 hi32 hz32 rfl ?_; simp only [Act.put, List.setIfInBounds_toArray, List.set_cons_succ, List.set_cons_zero]) | (refine wpList_store_row rfl 93 (.tmp 6) (.tmp 42) rfl wr.heap.size (sumC x).toArray rfl rfl 93 _ (HEX.out ▸ HN6.out) (size32 _ (sum_size _)) ((zero32_size).trans (sum_size _).symm) (all_oneCell_toArray (oneB _)) ?_; rw [← HWX.out, ← HEX.out]))
      clear hsl haa w1j w2j d0 HN6 HWX Hxg
      have hsW : wL.heap.size ≤ (wx.alloc (.cells (sumC x).toArray 93)).heap.size := by rw [World.size_alloc]; omega
      have wj1 : IntKind.i64.wrap ((j : Int) + 1) = (j : Int) + 1 := by simp [IntKind.wrap, IntKind.bits, IntKind.signed]; omega
      by_cases h67 : j < 67
      · have d1 : decide ((j : Int) < 67) = true := decide_eq_true (by omega)
        obtain ⟨hv2, ha1⟩ := Hrow.out.fst (by omega)
        have gx4 : wx.cell? ⟨X4, 1, none⟩ = some v1 := by rw [HX4r.out.cell]; rfl
        have frX := HX4r.out.frozen 1
        have Hrd := Lib.hid (rd32_one (Blk.new wx 93 (sumC x).toArray))
        have Hal := Lib.hid ((Below.refl wx.heap.size wx).alloc (Nat.le_refl _) (.cells (sumC x).toArray 93))
        have Happ := Lib.hid (ha1.alloc (.cells (sumC x).toArray 93))
        have HownG := Lib.hid (show some X4 ≠ v1.ownBlock from fun e => by have := (ha1.lt X4 e.symm).1; omega)
        have HV2 := Lib.hid hv2
        clear ha1 hv2
        go_wp2_with (first | (refine wpList_load_mid rfl 93 (.tmp 6) rfl X6 0 rfl (sumC x) _ Hx6.out und32 rfl (by rw [sumC_len]; kernel_rfl) ?_) | (refine wpList_build1s rfl 34 93 (.tmp 47) rfl (sumC x).toArray i32 _ 32 Try.underlying34 hi32 hz32 hs32 (by omega) (by omega) rfl (sum_size _) ?_) | (at_builtin; refine wpList_appz rfl (.tmp 46) (.tmp 48) 34 rfl 93 i32 (.agg zero32) 32 32 Try.underlying34 hi32 hz32 hs32 hy32 rfl (by omega) wL.heap.size hsW v1 _ _ rfl Happ.out (some ⟨wx.heap.size, 0, none⟩) 1 1 (sumC x) rfl Hrd.out (oneB _) (by unfold maxLen; omega) (by omega) ?_; intro v9 W9 ha9 hg9; have Hg9 := Lib.hid hg9; have Ha9 := Lib.hid ha9; obtain ⟨A9, c9, rfl, hc9, hr9⟩ := ha9.rd; have hGa := (HX4r.out.alloc (.cells (sumC x).toArray 93)).kept hg9 HownG.out; have frG9 := hGa.frozen 1; have gf9 : W9.cell? ⟨X4, 1, none⟩ = some v1 := (by rw [hGa.cell]; rfl); have HGa := Lib.hid hGa; clear hg9 hGa ha9 hr9))
        have hk9 := (KeptIn.of_below ((Below.refl wL.heap.size _).grown Hg9.out hsW (fun g e => (Happ.out.lt g e).1)) (S := fun b => b < wL.heap.size ∧ b ≠ X4) (fun b hb => hb.1)).setAt (p := ⟨X4, 1, none⟩) (fun h => h.2 rfl) (.slice A9 (j + 1) c9)
        have hk0 := KeptIn.of_below (S := fun b => b < wL.heap.size ∧ b ≠ X4) Hal.out (fun b hb => by have := hb.1; omega)
        refine ⟨⟨j + 1, .slice A9 (j + 1) c9, v2, by push_cast; rfl, by omega, heap_setCell_same W9 X4 1 _ 95 _ HGa.out, .inl ⟨by omega, HV2.out, ?_⟩, (Hkr.out.trans hk0).trans hk9⟩, by simp only [intOf]; omega⟩
        rw [rowsF_succ, Nat.zero_add, ← hSx.out, List.flatMap_append]
        have := Ha9.out.setAt (i := 1) (u := .slice A9 (j + 1) c9) HGa.out (by decide)
        simpa using this
      · have d1 : decide ((j : Int) < 67) = false := decide_eq_false (by omega)
        obtain ⟨base2, p1, p2, p3, p4, p5⟩ := Hrow.out.snd (by omega) hszx
        have gx4 : wx.cell? ⟨X4, 2, none⟩ = some v2 := by rw [HX4r.out.cell]; rfl
        have frX := HX4r.out.frozen 2
        have Hrd := Lib.hid (rd32_one (Blk.new wx 93 (sumC x).toArray))
        have Hal := Lib.hid ((Below.refl wx.heap.size wx).alloc (Nat.le_refl _) (.cells (sumC x).toArray 93))
        have Happ := Lib.hid (p5.alloc (.cells (sumC x).toArray 93))
        have HownG := Lib.hid (show some X4 ≠ v2.ownBlock from fun e => by have := (p5.lt X4 e.symm).1; omega)
        have Hne := Lib.hid (show v1.ownBlock = none ∨ v1.ownBlock ≠ v2.ownBlock from by
          cases e : v1.ownBlock with
          | none => exact .inl rfl
          | some g => exact .inr fun e' => by have h1 := p3 g e; have h2 := (p5.lt g e'.symm).1; omega)
        have H4p := Lib.hid (p4.alloc (.cells (sumC x).toArray 93))
        have P3 := Lib.hid p3
        replace hsW : base2 ≤ (wx.alloc (.cells (sumC x).toArray 93)).heap.size := by rw [World.size_alloc]; omega
        have hj67 : j - 67 ≤ 256 := by omega
        clear p4 p5 p3
        go_wp2_with (first | (refine wpList_load_mid rfl 93 (.tmp 6) rfl X6 0 rfl (sumC x) _ Hx6.out und32 rfl (by rw [sumC_len]; kernel_rfl) ?_) | (refine wpList_build1s rfl 34 93 (.tmp 53) rfl (sumC x).toArray i32 _ 32 Try.underlying34 hi32 hz32 hs32 (by omega) (by omega) rfl (sum_size _) ?_) | (at_builtin; refine wpList_appz rfl (.tmp 52) (.tmp 54) 34 rfl 93 i32 (.agg zero32) 32 32 Try.underlying34 hi32 hz32 hs32 hy32 rfl (by omega) base2 hsW v2 _ _ rfl Happ.out (some ⟨wx.heap.size, 0, none⟩) 1 1 (sumC x) rfl Hrd.out (oneB _) (by unfold maxLen; omega) (by omega) ?_; intro v9 W9 ha9 hg9; have Hg9 := Lib.hid hg9; have Ha9 := Lib.hid ha9; obtain ⟨A9, c9, rfl, hc9, hr9⟩ := ha9.rd; have hGa := (HX4r.out.alloc (.cells (sumC x).toArray 93)).kept hg9 HownG.out; have frG9 := hGa.frozen 2; have gf9 : W9.cell? ⟨X4, 2, none⟩ = some v2 := (by rw [hGa.cell]; rfl); have HGa := Lib.hid hGa; clear hg9 hGa ha9 hr9))
        have hB9 : Below base2 _ W9 := (Below.refl base2 _).grown Hg9.out hsW (fun g e => (Happ.out.lt g e).1)
        have hk9 := (KeptIn.of_below hB9 (S := fun b => b < wL.heap.size ∧ b ≠ X4) (fun b hb => by have := hb.1; omega)).setAt (p := ⟨X4, 2, none⟩) (fun h => h.2 rfl) (.slice A9 (j - 67 + 1) c9)
        have hk0 := KeptIn.of_below (S := fun b => b < wL.heap.size ∧ b ≠ X4) Hal.out (fun b hb => by have := hb.1; omega)
        have h49 := (H4p.out.kept Hg9.out Hne.out).setAt (i := 2) (u := .slice A9 (j - 67 + 1) c9) HGa.out (by decide)
        have h59 := Ha9.out.setAt (i := 2) (u := .slice A9 (j - 67 + 1) c9) HGa.out (by decide)
        refine ⟨⟨j + 1, v1, .slice A9 (j - 67 + 1) c9, by push_cast; rfl, by omega, heap_setCell_same W9 X4 2 _ 95 _ HGa.out, .inr ⟨by omega, base2, p1, Nat.le_trans hsW (by have := hB9.size; simpa using this), P3.out, h49, ?_⟩, (Hkr.out.trans hk0).trans hk9⟩, by simp only [intOf]; omega⟩
        rw [show j + 1 - 67 = (j - 67) + 1 by omega, rowsF_succ, show 67 + (j - 67) = j by omega, ← hSx.out, List.flatMap_append]
        simpa using h59
    · have d0 : decide ((j : Int) < 67 + (p : Int)) = false := decide_eq_false (by omega)
      obtain rfl : j = 67 + p := by omega
      obtain ⟨base2, p1, p2, p3, p4, p5⟩ := Hrow.out.snd (by omega) hszr
      rw [Nat.add_sub_cancel_left] at p5
      obtain ⟨C, cc, rfl, hcc, _⟩ := p4.rd
      obtain ⟨D, d, rfl, hdd, _⟩ := p5.rd
      have HC := Lib.hid p4.trd
      have HD := Lib.hid p5.trd
      have Hsg := Lib.hid (Blk.range (cs := sgV (b0.toNat : Int) C 67 cc D p d) HX4r.out)
      have HX2r := Lib.hid (HX2.out.keptIn Hkr.out (show w.heap.size < wL.heap.size ∧ w.heap.size ≠ X4 by omega))
      have HBr := Lib.hid (HBL.out.trans (Hkr.out.below (fun b (hb : b < w.heap.size) => ⟨by omega, by omega⟩)))
      clear p3 p4 p5 Hrow
      go_wp2_with (refine wpList_load_mid rfl 95 (.tmp 4) rfl X4 0 rfl (sgV (b0.toNat : Int) C 67 cc D p d) d37 Hsg.out hd37 hrow37 (by rw [sgV_len]; kernel_rfl) ?_)
      refine (formed_any (b0.toNat : Int) C 67 cc D p d wr).mono ?_
      rintro e wf ⟨rfl, hbf⟩
      have HX2f := Lib.hid (HX2r.out.below hbf HX2r.out.lt)
      have HBf := Lib.hid (HBr.out.trans (hbf.mono HBr.out.size))
      have Hsf := Lib.hid (Blk.range (cs := sgV (b0.toNat : Int) C 67 cc D p d) (HX4r.out.below hbf HX4r.out.lt))
      have HCf := Lib.hid (HC.out.below hbf)
      have HDf := Lib.hid (HD.out.below hbf)
      have hfe : formP bs = formB (b0.toNat : Int) 67 p := by rw [form_eq (by rw [E1.out, ← HP.out]; omega), E0.out, E1.out, HP.out]
      clear hbf Hsg HX2r HBr HC HD
      by_cases hf : formB (b0.toNat : Int) 67 p = true
      · rw [hf]
        have hpar := Lib.hid (show parS bs = (⟨(b0.toNat : Int), sumsAt bs 0 67, sumsAt bs 67 p⟩, 0) by unfold parS; rw [if_pos (by rw [hfe, hf]), E0.out, E1.out, HP.out])
        clear hfe hf
        go_wp2_with (first | (refine wpList_load_mid rfl 95 (.tmp 4) rfl X4 0 rfl (sgV (b0.toNat : Int) C 67 cc D p d) d37 Hsf.out hd37 hrow37 (by rw [sgV_len]; kernel_rfl) ?_) | (refine wpList_store_row rfl 95 (.tmp 2) (.tmp 62) rfl w.heap.size (sgV (b0.toNat : Int) C 67 cc D p d).toArray rfl rfl 95 _ HX2f.out (size37 _ rfl) rfl (sg_one _ _ _ _ _ _ _) ?_))
        have hkx := (KeptIn.refl (fun b => b ≠ w.heap.size) wf).setRow (g := w.heap.size) (fun h => h rfl) (sgV (b0.toNat : Int) C 67 cc D p d).toArray
        refine bodyPost_ret (results_row_tmp rfl _ _ w.heap.size 95 (sgV (b0.toNat : Int) C 67 cc D p d).toArray (0, 0) _ rfl (setRow_heap _ _ _ _ _ _ HX2f.out) hd37 hrow37 (size37 _ rfl)) rfl ⟨⟨C, 67, cc, D, p, d, by rw [hpar.out]; rfl, hcc, hdd, by rw [hpar.out]; exact HCf.out.kept HX2f.out (by decide) hkx, by rw [hpar.out]; exact HDf.out.kept HX2f.out (by decide) hkx⟩, Below.setRow HBf.out (Nat.le_refl _) _⟩
      · have hf' : formB (b0.toNat : Int) 67 p = false := by simpa using hf
        rw [hf']
        have hbad := Lib.hid (show parS bs = (sg0, 3) from par_bad (by rw [hfe]; exact hf'))
        go_wp2_with (first | (refine wpList_buildN rfl 95 _ rfl [] rfl _ built37z ?_) | (refine wpList_store_row rfl 95 (.tmp 2) (.tmp 61) rfl w.heap.size (sgV 0 none 0 0 none 0 0).toArray rfl rfl 95 _ HX2f.out (size37 _ rfl) rfl (sg_one _ _ _ _ _ _ _) ?_))
        refine bodyPost_ret (results_row_tmp rfl _ _ w.heap.size 95 (sgV 0 none 0 0 none 0 0).toArray (0, 0) _ rfl (setRow_heap _ _ _ _ _ _ HX2f.out) hd37 hrow37 (size37 _ rfl)) rfl ⟨⟨none, 0, 0, none, 0, 0, by rw [hbad.out]; rfl, Nat.le_refl _, Nat.le_refl _, by rw [hbad.out]; exact trd_nilS _, by rw [hbad.out]; exact trd_nilS _⟩, Below.setRow HBf.out (Nat.le_refl _) _⟩
end Go.Proofs.Yteofgkdpknaapaa
