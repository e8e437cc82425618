/- The reference's Longest. -/
import Derived.Test.YtcelkneeedebiaaX10
namespace Go.Proofs.Ytcelkneeedebiaa
open Go.RowKit Go.Sort

theorem elem22 : Try.prog.elem 22 = 5 := by kernel_rfl
theorem und22e : Try.prog.underlying 22 = some (.slice (Try.prog.elem 22)) := by rw [elem22]; exact Try.underlying22
theorem size5 : Try.prog.cellsOf 5 = 1 := by kernel_rfl
theorem run_slice_bytes (b off L c i : Nat) (hi : i < L) (hc : L ≤ c) (w : World) : (Instr.slice 22 (.slice (some ⟨b, off, none⟩) L c) (some (.int .i64 (i : Int))) none none).run Try.prog w = .ok (.slice (some ⟨b, off + i, none⟩) (L - i) (c - i)) w := by
  obtain ⟨iE, hi'⟩ : ∃ i, Try.prog.info? 5 = some i := by
    have := size5
    unfold Program.cellsOf at this
    cases h : Try.prog.info? 5 with
    | none => simp [h] at this
    | some i => exact ⟨i, rfl⟩
  rw [run_slice_l (P := Try.prog) w 22 _ L c und22e .i64 (i : Int) (by omega) (by omega), elem22, run_sizeOf w hi', size5]
  simp only [Result.andThen_ok, sliced, Int.toNat_natCast, Option.map_some]
  rw [if_neg (by omega)]
  have hadd : (⟨b, off, none⟩ : Addr).add (i * 1) = ⟨b, off + i, none⟩ := by unfold Addr.add; split <;> simp_all
  rw [hadd]
theorem rd_drop {w : World} {b off n i : Nat} {bs : List UInt8} (h : Rd w 1 (some ⟨b, off, none⟩) n (bs.map byteV)) (hi : i ≤ n) : Rd w 1 (some ⟨b, off + i, none⟩) (n - i) ((bs.drop i).map byteV) := by
  have hl := h.len1
  refine ⟨by rw [List.length_map, List.length_drop]; omega, by have := h.2.1; omega, fun h0 => ⟨b, off + i, rfl, fun j u hu => ?_⟩⟩
  obtain ⟨b', off', e, hc⟩ := h.2.2 (by omega)
  cases e
  rw [Nat.add_assoc]
  exact hc (i + j) u (by rw [List.map_drop, List.getElem?_drop] at hu; exact hu)
def fdV (a l : Int) : List Value := [.int .i64 a, .int .i64 l]
theorem fd_one (a l : Int) : (fdV a l).toArray.all (·.oneCell') = true := by simp [fdV, Value.oneCell']
theorem info29 : (Try.prog.info? 29).map (fun i => (i.zero, i.size, i.bytes)) = some (some (.agg (fdV 0 0).toArray), 2, 16) := by kernel_rfl
theorem size29 (cs : Array Value) (h : cs.size = 2) : (Try.prog.info? 29).map (·.size) = some cs.size := by rw [h]; kernel_rfl
theorem und29 : ∃ d, Try.prog.underlying 29 = some d ∧ d.isRow = true := by
  obtain ⟨d, h1, h2⟩ := Option.map_eq_some_iff.1 (show (Try.prog.underlying 29).map (·.isRow) = some true by kernel_rfl)
  exact ⟨d, h1, h2⟩
theorem built29 (a l : Int) : Try.prog.built 29 [(0, .int .i64 a), (1, .int .i64 l)] = some (fdV a l).toArray := by kernel_rfl
theorem built29z : Try.prog.built 29 [] = some (fdV 0 0).toArray := by kernel_rfl
set_option maxRecDepth 100000 in
set_option maxHeartbeats 1000000 in
theorem RLongest_any (A B : Option Addr) (n m c d : Nat) (xs ys : List UInt8) (w : World) (hx : Rd w 1 A n (xs.map byteV)) (hy : Rd w 1 B m (ys.map byteV)) (hnc : n ≤ c) :
    Calls Try.prog 16 #[.slice A n c, .slice B m d] w fun e w' => e = .returned (.agg (fdV (bestTo xs ys xs.length).1 (bestTo xs ys xs.length).2).toArray) ∧ Below w.heap.size w w' := by
  have hxl := hx.len1
  obtain ⟨i29, hi29, hz29, hs29, hy29⟩ := info_parts info29
  obtain ⟨d29, hd29, hrow29⟩ := und29
  go_enter Try.func16, Try.ntmps16
  go_upto_region 1 with (refine wpList_alloc0 rfl 29 rfl (fdV 0 0).toArray _ i29 hi29 hz29 rfl ?_; simp only [Act.put, List.setIfInBounds_toArray, List.set_cons_succ, List.set_cons_zero])
  obtain ⟨w1, hw1⟩ : ∃ v, v = w.alloc (.cells (fdV 0 0).toArray 29) := ⟨_, rfl⟩
  have hB1 : Below w.heap.size w w1 := by rw [hw1]; exact (Below.refl _ _).alloc (Nat.le_refl _) _
  have hX4 : Blk w1 w.heap.size 29 (fdV 0 0).toArray := by rw [hw1]; exact Blk.new _ _ _
  rw [← hw1]
  clear hw1
  have HN5 := Lib.hid (Blk.new w1 29 (fdV 0 0).toArray)
  go_upto_region 2 with (first | (refine wpList_buildN rfl 29 _ rfl [] rfl _ built29z ?_) | (refine wpList_alloc0 rfl 29 rfl (fdV 0 0).toArray _ i29 hi29 hz29 rfl ?_; simp only [Act.put, List.setIfInBounds_toArray, List.set_cons_succ, List.set_cons_zero]) | (refine wpList_store_row rfl 29 (.tmp 5) (.tmp 8) rfl w1.heap.size (fdV 0 0).toArray rfl rfl 29 _ HN5.out (size29 _ rfl) rfl (fd_one _ _) ?_))
  obtain ⟨X5, hX5e⟩ : ∃ v, v = w1.heap.size := ⟨_, rfl⟩
  obtain ⟨w2, hw2⟩ : ∃ v, v = (w1.alloc (.cells (fdV 0 0).toArray 29)).setRow w1.heap.size (fdV 0 0).toArray := ⟨_, rfl⟩
  have hb2 : Below w1.heap.size w1 w2 := by rw [hw2]; exact Below.setRow ((Below.refl _ _).alloc (Nat.le_refl _) _) (Nat.le_refl _) _
  have hX5 : Blk w2 X5 29 (fdV 0 0).toArray := by rw [hw2, hX5e]; exact setRow_heap _ _ _ _ _ _ HN5.out
  rw [← hw2, ← hX5e]
  have hlt5 : w.heap.size < X5 := by rw [hX5e]; exact hX4.lt
  have HX4 := Lib.hid (hX4.below hb2 hX4.lt)
  have HX5 := Lib.hid hX5
  have HB2 := Lib.hid (hB1.trans (hb2.mono hB1.size))
  have Hx := Lib.hid hx
  have Hy := Lib.hid hy
  have Hxl := Lib.hid hxl
  have hnl := hx.le
  clear hw2 hX5e hb2 hX5 hX4 hB1 HN5 hx hy hxl
  go_wp2_with fail
  go_loopw [6, 7] (fun v6 _ wr => ∃ i : Nat, v6 = .int .i64 (i : Int) ∧ i ≤ n ∧ Blk wr X5 29 (fdV (bestTo xs ys i).1 (bestTo xs ys i).2).toArray ∧ Blk wr w.heap.size 29 (fdV 0 0).toArray ∧ Below w.heap.size w wr) (fun v6 _ _ => n - (intOf v6).toNat)
  case atStart => exact ⟨0, rfl, by omega, HX5.out, HX4.out, HB2.out⟩
  case round =>
    obtain ⟨i, rfl, hi, h5, h4, hB⟩ := hrel
    have H5 := Lib.hid h5
    have H4 := Lib.hid h4
    have HBr := Lib.hid hB
    clear h5 h4 hB HX5 HX4 HB2
    by_cases hlt : i < n
    · have d0 : decide ((i : Int) < (n : Int)) = true := decide_eq_true (by omega)
      obtain ⟨bb, bo, rfl, _⟩ := Hx.out.2.2 (by omega)
      have hsl := run_slice_bytes bb bo n c i hlt hnc
      have Hsh := Lib.hid (RShared_any (some ⟨bb, bo + i, none⟩) B (n - i) m (c - i) d (xs.drop i) ys wr (rd_drop (Hx.out.below HBr.out) (by omega)) (Hy.out.below HBr.out))
      obtain ⟨sh, hsh⟩ : ∃ sh, sh = sharedL (xs.drop i) ys := ⟨_, rfl⟩
      rw [← hsh] at Hsh
      have HSH := Lib.hid hsh
      clear hsh
      go_wp2_with fail
      refine Hsh.out.mono ?_
      rintro e w3 ⟨rfl, hb3⟩
      replace H5 := Lib.hid (H5.out.below hb3 H5.out.lt)
      replace H4 := Lib.hid (H4.out.below hb3 H4.out.lt)
      have HB3 := Lib.hid (HBr.out.trans (hb3.mono HBr.out.size))
      clear hb3 Hsh hsl
      obtain ⟨p, hp⟩ : ∃ p, p = bestTo xs ys i := ⟨_, rfl⟩
      rw [← hp] at H5
      have HP := Lib.hid hp
      clear hp
      have g1 : w3.cell? ⟨X5, 1, none⟩ = some (.int .i64 (p.2 : Int)) := by rw [H5.out.cell]; rfl
      by_cases hgt : p.2 < sh
      · have d1 : decide ((sh : Int) > (p.2 : Int)) = true := decide_eq_true (by omega)
        have d1' : decide (p.2 < sh) = true := decide_eq_true hgt
        have hE : bestTo xs ys (i + 1) = (i, sh) := by
          show (if (bestTo xs ys i).2 < sharedL (xs.drop i) ys then (i, sharedL (xs.drop i) ys) else bestTo xs ys i) = _
          rw [← HP.out, ← HSH.out, if_pos hgt]
        have HE := Lib.hid hE
        have hk := (KeptIn.refl (fun b => b ≠ X5) w3).setRow (g := X5) (fun h => h rfl) (fdV (i : Int) (sh : Int)).toArray
        have Hn5 := Lib.hid (show Blk (w3.setRow X5 (fdV (i : Int) (sh : Int)).toArray) X5 29 (fdV (i : Int) (sh : Int)).toArray from setRow_heap _ _ _ _ _ _ H5.out)
        have Hn4 := Lib.hid (H4.out.keptIn hk (show w.heap.size ≠ X5 by omega))
        have HnB := Lib.hid (show Below w.heap.size w (w3.setRow X5 (fdV (i : Int) (sh : Int)).toArray) from Below.setRow HB3.out (by omega) _)
        clear hE hk
        go_wp2_with (first | (refine wpList_buildN rfl 29 _ rfl [(0, .int .i64 (i : Int)), (1, .int .i64 (sh : Int))] rfl _ (built29 _ _) ?_) | (refine wpList_store_row rfl 29 (.tmp 5) (.tmp 26) rfl X5 (fdV (i : Int) (sh : Int)).toArray rfl rfl 29 _ H5.out (size29 _ rfl) rfl (fd_one _ _) ?_))
        exact ⟨⟨i + 1, by push_cast; rfl, by omega, by rw [HE.out]; exact Hn5.out, Hn4.out, HnB.out⟩, by simp only [intOf]; omega⟩
      · have d1 : decide ((sh : Int) > (p.2 : Int)) = false := decide_eq_false (by omega)
        have d1' : decide (p.2 < sh) = false := decide_eq_false hgt
        have hE : bestTo xs ys (i + 1) = p := by
          show (if (bestTo xs ys i).2 < sharedL (xs.drop i) ys then (i, sharedL (xs.drop i) ys) else bestTo xs ys i) = _
          rw [← HP.out, ← HSH.out, if_neg hgt]
        have HE := Lib.hid hE
        clear hE
        go_wp2_with fail
        exact ⟨⟨i + 1, by push_cast; rfl, by omega, by rw [HE.out]; exact H5.out, H4.out, HB3.out⟩, by simp only [intOf]; omega⟩
    · have d0 : decide ((i : Int) < (n : Int)) = false := decide_eq_false (by omega)
      have Hr := Lib.hid (Blk.range (cs := fdV (bestTo xs ys i).1 (bestTo xs ys i).2) H5.out)
      have Hi := Lib.hid (show i = xs.length by rw [Hxl.out]; omega)
      go_wp2_with (first | (refine wpList_load_mid rfl 29 (.tmp 5) rfl X5 0 rfl (fdV (bestTo xs ys i).1 (bestTo xs ys i).2) d29 Hr.out hd29 hrow29 (by kernel_rfl) ?_) | (refine wpList_store_row rfl 29 (.tmp 4) (.tmp 27) rfl w.heap.size (fdV (bestTo xs ys i).1 (bestTo xs ys i).2).toArray rfl rfl 29 _ H4.out (size29 _ rfl) rfl (fd_one _ _) ?_))
      refine bodyPost_ret (results_cell_row rfl _ _ w.heap.size 29 _ (0, 0) _ rfl (setRow_heap _ _ _ _ _ _ H4.out) hd29 (by cases d29 <;> first | rfl | exact hrow29) (size29 _ rfl)) rfl ⟨by rw [← Hi.out], Below.setRow HBr.out (Nat.le_refl _) _⟩
end Go.Proofs.Ytcelkneeedebiaa
