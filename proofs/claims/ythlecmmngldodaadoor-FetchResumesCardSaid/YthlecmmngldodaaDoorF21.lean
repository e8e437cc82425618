/- The reference of package fetch: Take. -/
import Derived.Test.YthlecmmngldodaaDoorF12
import Derived.Test.YthlecmmngldodaaDoorF19
import Derived.Test.YthlecmmngldodaaDoorH13
namespace Go.Proofs.YthlecmmngldodaaDoor
open Go.RowKit Go.Sort

theorem ckC (x : Ck) : (ckV x).toArray = #[.int .i64 x.i, slV x.d, slV x.l] := rfl
theorem run_empty22 (w : World) : (Instr.buildSlice 27 0 #[]).run Tryd.prog w = .ok (.slice (some ⟨w.heap.size, 0, none⟩) 0 0) (w.alloc (.cells #[] 22)) := by kernel_rfl
theorem run_empty5 (w : World) : (Instr.buildSlice 22 0 #[]).run Tryd.prog w = .ok (.slice (some ⟨w.heap.size, 0, none⟩) 0 0) (w.alloc (.cells #[] 5)) := by kernel_rfl

set_option maxRecDepth 100000 in
set_option maxHeartbeats 4000000 in
theorem RTake_typed (tr : Sum32) (A : Option Addr) (n c : Nat) (h : List (List UInt8)) (i : Int) (D : Option Addr) (dl dc : Nat) (d : List UInt8) (P : Option Addr) (pl pc : Nat) (p : List Sum32) (w : World) (hT : TLst w A n h) (hn : n ≤ 1000) (hD : Rd w 1 D dl (d.map byteV)) (hdl : dl ≤ 1000000) (hP : Rd w 32 P pl (p.flatMap sumC)) (hi : -1000000 ≤ i ∧ i ≤ 1000000) :
    Calls Tryd.prog 23 #[.agg (fetchC tr A n c).toArray, .agg (ckV ⟨i, ⟨D, dl, dc⟩, ⟨P, pl, pc⟩⟩).toArray] w fun e w' => ∃ A' c', e = .returned (.tuple #[.agg (fetchC tr A' n c').toArray, .int .i64 (takeE tr h i d p)]) ∧ TLst w' A' n (takeH tr h i d p) ∧ Below w.heap.size w w' := by
  obtain ⟨i35, hi35, hz35, hs35, hy35⟩ := info_parts info35
  obtain ⟨i22, hi22, hz22, hs22, hy22⟩ := info_parts info22
  obtain ⟨i5, hi5, hz5, hs5, hy5⟩ := info_parts info5
  obtain ⟨d35, hd35, hrow35⟩ := und35
  have hL := hT.lst
  have hl := hL.len
  have hdd := hD.len1
  obtain ⟨W1, hW1⟩ : ∃ W1, W1 = (((w.alloc (.cells (fetchC tr A n c).toArray 35)).alloc (.cells (ckV ⟨i, ⟨D, dl, dc⟩, ⟨P, pl, pc⟩⟩).toArray 48)).alloc (.cells (fetchC z32 none 0 0).toArray 35)) := ⟨_, rfl⟩
  have hB : Below w.heap.size w W1 := by rw [hW1]; exact (((Below.refl _ _).alloc (Nat.le_refl _) _).alloc (by simp) _).alloc (by simp; omega) _
  have hF : Blk W1 w.heap.size 35 (fetchC tr A n c).toArray := by rw [hW1]; exact ((Blk.new _ _ _).alloc _).alloc _
  have hC : Blk W1 (w.heap.size + 1) 48 (ckV ⟨i, ⟨D, dl, dc⟩, ⟨P, pl, pc⟩⟩).toArray := by
    rw [hW1]
    have := (Blk.new (w.alloc (.cells (fetchC tr A n c).toArray 35)) 48 (ckV ⟨i, ⟨D, dl, dc⟩, ⟨P, pl, pc⟩⟩).toArray).alloc (.cells (fetchC z32 none 0 0).toArray 35)
    rwa [World.size_alloc] at this
  have hZ : Blk W1 (w.heap.size + 2) 35 (fetchC z32 none 0 0).toArray := by
    rw [hW1]
    have := Blk.new ((w.alloc (.cells (fetchC tr A n c).toArray 35)).alloc (.cells (ckV ⟨i, ⟨D, dl, dc⟩, ⟨P, pl, pc⟩⟩).toArray 48)) 35 (fetchC z32 none 0 0).toArray
    rwa [World.size_alloc, World.size_alloc] at this
  obtain ⟨E, hE⟩ : ∃ E, E = takeE tr h i d p := ⟨_, rfl⟩
  obtain ⟨H, hH⟩ : ∃ H, H = takeH tr h i d p := ⟨_, rfl⟩
  rw [← hE, ← hH]
  have HE := Lib.hid hE
  have HH := Lib.hid hH
  have HW1 := Lib.hid hW1
  clear hE hH hW1
  go_enter Tryd.func23, Tryd.ntmps23
  go_upto_region 1 with (refine wpList_alloc0 rfl 35 rfl (fetchC z32 none 0 0).toArray _ i35 hi35 hz35 rfl ?_; simp only [Act.put, List.setIfInBounds_toArray, List.set_cons_succ, List.set_cons_zero, World.size_alloc])
  rw [← HW1.out]
  have c32 : W1.cell? ⟨w.heap.size, 32, none⟩ = some (.slice A n c) := by rw [hF.cell]; exact fetchC_have _ _ _ _
  have k0 : W1.cell? ⟨w.heap.size + 1, 0, none⟩ = some (.int .i64 i) := by rw [hC.cell]; rfl
  have k1 : W1.cell? ⟨w.heap.size + 1, 1, none⟩ = some (.slice D dl dc) := by rw [hC.cell]; rfl
  have k2 : W1.cell? ⟨w.heap.size + 1, 2, none⟩ = some (.slice P pl pc) := by rw [hC.cell]; rfl
  have hs1 := hZ.lt
  have HB := Lib.hid hB
  have HF := Lib.hid hF
  have HC := Lib.hid hC
  have HZ := Lib.hid hZ
  have HT0 := Lib.hid hT
  have HT := Lib.hid (hT.below hB)
  have HD := Lib.hid (hD.below hB)
  have HP := Lib.hid (hP.below hB)
  clear hB hF hC hZ hT hL hD hP HW1
  obtain ⟨B0, hB0⟩ : ∃ B0 : Bool, B0 = decide (i < 0 ∨ (n : Int) ≤ i ∨ properB dl i n = false) := ⟨_, rfl⟩
  go_cut [29] from 8 to 29 (fun t29 wx => t29 = .bool B0 ∧ wx = W1)
  case first =>
    by_cases h0 : i < 0
    · have hb : B0 = true := by rw [hB0]; exact decide_eq_true (.inl h0)
      have Hb := Lib.hid hb
      clear hb hB0
      go_wp2_with fail
      go_meet
      exact ⟨by rw [Hb.out], rfl⟩
    · by_cases h1 : (n : Int) ≤ i
      · have hb : B0 = true := by rw [hB0]; exact decide_eq_true (.inr (.inl h1))
        have Hb := Lib.hid hb
        clear hb hB0
        go_wp2_with fail
        go_meet
        exact ⟨by rw [Hb.out], rfl⟩
      · have hb : B0 = !(properB dl i n) := by
          rw [hB0]
          cases properB dl i n
          · exact decide_eq_true (.inr (.inr rfl))
          · exact decide_eq_false (by rintro (h | h | h) <;> first | omega | cases h)
        have Hb := Lib.hid hb
        have Hp := Lib.hid (RProper_any D dl dc i n (by omega) (by omega) W1)
        clear hb hB0
        go_wp2_with fail
        refine Hp.out.mono ?_
        rintro e w2 ⟨rfl, hw2⟩
        subst hw2
        go_wp2_with fail
        go_meet
        exact ⟨by rw [Hb.out], rfl⟩
  case rest =>
    obtain ⟨rfl, hwc⟩ := hcut
    subst hwc
    cases hc : B0 with
    | true =>
      rw [hc] at hB0
      have hv : E = 280 := by
        rw [HE.out]; unfold takeE
        rw [if_pos (by rw [hl, hdd]; exact of_decide_eq_true hB0.symm)]
      have hh : H = h := by rw [HH.out]; unfold takeH; rw [if_neg (fun q => by rw [← HE.out, hv] at q; exact absurd q.1 (by decide))]
      have Hv := Lib.hid hv
      have Hh := Lib.hid hh
      clear hv hh hB0 hc c32 k0 k1 k2
      go_wp2_with (first | (refine wpList_load_mid rfl 35 (.tmp 2) rfl w.heap.size 0 rfl (fetchC tr A n c) _ (fetch_range HF.out) hd35 hrow35 (by rw [fetchC_len]; kernel_rfl) ?_) | (refine wpList_store_row rfl 35 (.tmp 4) (.tmp 30) rfl (w.heap.size + 2) (fetchC tr A n c).toArray rfl rfl 35 (fetchC z32 none 0 0).toArray HZ.out (size35 _ (by simp [fetchC_len])) (by simp [fetchC_len]) (fetch_one _ _ _ _) ?_))
      refine bodyPost_ret (results_row_tmp rfl _ _ (w.heap.size + 2) 35 (fetchC tr A n c).toArray (0, 0) _ rfl (setRow_heap _ _ _ _ _ _ HZ.out) hd35 hrow35 (size35 _ (by simp [fetchC_len]))) rfl ⟨A, c, by rw [Hv.out]; rfl, ?_, Below.setRow HB.out (by omega) _⟩
      rw [Hh.out]
      exact HT0.out.below (Below.setRow HB.out (by omega) _)
    | false =>
      rw [hc] at hB0
      have hnb : ¬ (i < 0 ∨ (n : Int) ≤ i ∨ properB dl i n = false) := of_decide_eq_false hB0.symm
      clear hB0 hc
      obtain ⟨k, rfl⟩ : ∃ k : Nat, i = (k : Int) := ⟨i.toNat, by omega⟩
      have hkn : k < n := by omega
      have hpr : properB dl (k : Int) n = true := by
        cases hq : properB dl (k : Int) n with
        | true => rfl
        | false => exact absurd (.inr (.inr hq)) hnb
      have hdpos : dl ≠ 0 := fun e => by
        rw [e] at hpr
        unfold properB at hpr
        split at hpr <;> simp at hpr
      have hEv : E = if chkL n k (leafS d) p = some tr then 0 else 150 := by
        rw [HE.out]; unfold takeE
        rw [hl, hdd, if_neg hnb, Int.toNat_natCast]
      have hck := RCheck_any tr n k D P dl dc pl pc d p hkn (by omega) wc HD.out (by omega) HP.out
      unfold claimV at hck
      have hrt := fetchC_tree HF.out
      have Hck := Lib.hid hck
      have Hrt := Lib.hid hrt
      have HEv := Lib.hid hEv
      clear hck hrt hEv hnb hpr
      by_cases hacc : chkL n k (leafS d) p = some tr
      · have hck := Hck.out
        rw [decide_eq_true hacc] at hck
        have Hck2 := Lib.hid hck
        have hv : E = 0 := by rw [HEv.out, if_pos hacc]
        have Hv := Lib.hid hv
        clear hck hv Hck HEv hacc
        go_wp2_with (refine wpList_load_mid rfl 33 (.tmp 31) rfl w.heap.size 0 rfl (sumC tr) _ Hrt.out und32 rfl (by rw [sumC_len]; kernel_rfl) ?_)
        refine Hck2.out.mono ?_
        rintro e w2 ⟨rfl, hb2⟩
        have hs2 := hb2.size
        have c32b := (hb2.cell (World.block_lt_of_cell? wc _ c32)).trans c32
        have k0b := (hb2.cell (World.block_lt_of_cell? wc _ k0)).trans k0
        have k1b := (hb2.cell (World.block_lt_of_cell? wc _ k1)).trans k1
        have HF2 := Lib.hid (HF.out.below hb2 HF.out.lt)
        have HZ2 := Lib.hid (HZ.out.below hb2 HZ.out.lt)
        have HC2 := Lib.hid (HC.out.below hb2 HC.out.lt)
        have HT2 := Lib.hid (HT.out.below hb2)
        have HD2 := Lib.hid (HD.out.below hb2)
        have HB2 := Lib.hid (HB.out.trans (hb2.mono HB.out.size))
        clear hb2 c32 k0 k1 k2 Hck2 Hrt
        obtain ⟨bL, oL, v, x, rfl, hx, cc, hrx, hvc⟩ := HT2.out.lst.at_ hkn
        have hvn := hrx.len1
        have hvl := hrx.le
        have hgd : h.getD k [] = x := by rw [List.getD_eq_getElem?_getD, hx]; rfl
        by_cases hv0 : v.n = 0
        · have hxe : x = [] := List.eq_nil_of_length_eq_zero (by omega)
          have hh : H = h.set k d := by
            rw [HH.out]; unfold takeH
            rw [if_pos ⟨by rw [← HE.out]; exact Hv.out, by rw [Int.toNat_natCast, hgd, hxe]; rfl⟩, Int.toNat_natCast]
          have Hh := Lib.hid hh
          have hd0 : decide (0 < v.n) = false := decide_eq_false (by omega)
          have hd1 : decide ((0 : Int) < (v.n : Int)) = false := decide_eq_false (by omega)
          clear hh hrx hx hgd hxe hvn
          obtain ⟨vs, hrv, hlv, helv⟩ := HT2.out
          have Hrv := Lib.hid hrv
          have Hel := Lib.hid helv
          have Hlv := Lib.hid hlv
          have hrt2 : ∀ w', Ext w2 w' → w'.rangeAt w.heap.size 0 (sumC tr) := fun w' hw' => fetchC_tree (HF2.out.below (ext_below hw') HF2.out.lt)
          have c32r := cell_regrown c32b
          have Hrt2 := Lib.hid hrt2
          clear hrv hlv helv hrt2
          go_upto_region 8 with fail
          clear c32b cc
          go_cut [7] from 56 to 62 (fun t7 wx => ∃ (B : Nat) (A' : Option Addr) (c' : Nat), t7 = .pointer (some ⟨B, 0, none⟩) ∧ w2.heap.size ≤ B ∧ Blk wx B 35 (fetchC tr A' n c').toArray ∧ wx.ownsRow w2.heap.size 22 1 (.slice A' n c') n (vs.map slV) ∧ Below w2.heap.size w2 wx ∧ n ≤ c')
          case first =>
            refine wp_region_reads_tail 8 [0, 1, 3, 4] 4 (by kernel_rfl) (List.take_append_drop _ _) rfl (by kernel_rfl) (by kernel_rfl) (by kernel_rfl) (by decide) (by kernel_rfl) (by kernel_rfl) (fun _ _ d _ _ h => by cases d <;> exact h) (by kernel_rfl) (by kernel_rfl) rfl ?_
            simp only [List.take_succ_cons, List.take_zero, List.drop_succ_cons, List.drop_zero, pickOps, List.getElem?_cons_zero, List.getElem?_cons_succ]
            repeat (first | go_big_quiet_step (fail) | (refine wpQuiet_load_mid rfl 33 _ rfl w.heap.size 0 rfl (sumC tr) _ Hrt2.out und32 rfl (by rw [sumC_len]; kernel_rfl) ?_; simp only [Act.put, List.setIfInBounds_toArray, List.set_cons_succ, List.set_cons_zero]))
            refine wpQuiet_nil ?_
            refine web_start0 (fs := [floNil 2 58 22, floVar 7 7 35 (fetchC z32 none 0 0).toArray]) [.act 5 [2], .act 6 []] _ _ (by kernel_rfl) (fun _ _ d _ _ h => by cases d <;> exact h) ⟨⟨_, rfl, flo_nil rfl rfl rfl run_empty22⟩, ⟨_, rfl, flo_var rfl rfl rfl _ i35 hi35 hz35 rfl⟩, trivial⟩ (by decide) (by decide) (by kernel_rfl) (by kernel_rfl) (ext_drew (ext_refl _)) (by intro F hF; simp at hF; rcases hF with rfl | rfl <;> simp) 4 (by decide) (by kernel_rfl) ?_
            intro v1 W hW hneed o ho K hK
            cases ho
            obtain ⟨B2, hv2, hB2, hblk2⟩ := hneed 2 (by simp) (floNil 2 58 22) (by simp) rfl
            have hbW : Below w2.heap.size w2 W := ((Below.refl _ w2).drew).trans hW
            simp only [putS, List.foldl_cons, List.foldl_nil, Act.put, List.setIfInBounds_toArray, List.set_cons_succ, List.set_cons_zero]
            refine step_appe rfl (.tmp 58) (.tmp 60) 27 rfl 22 i22 (.slice none 0 0) 1 24 Tryd.underlying27 hi22 hz22 hs22 hy22 rfl (by omega) w2.heap.size B2 hB2 hblk2 ?_ (some ⟨bL, oL, none⟩) n c (vs.map slV) rfl (Hrv.out.1.below hbW) (by unfold maxLen; omega) (by omega) ?_
            · exact hv2
            intro x1 W2 ha1 hb1 _
            refine hK _ _ (by intro F hF; simp at hF; rcases hF with rfl | rfl <;> exact ⟨rfl, by simp [Act.put]⟩) hb1 ?_
            have hb12 := hbW.trans (hb1.mono hbW.size)
            clear hK K hW hneed
            obtain ⟨A5, c5, rfl, hc5, _⟩ := ha1.rd
            have hO1 : W2.ownsRow w2.heap.size 22 1 (.slice A5 n c5) n (vs.map slV) := by
              rcases ha1 with ⟨h0, _⟩ | h
              · omega
              · exact h
            have HO1 := Lib.hid hO1
            clear ha1 hO1
            intro v2 W3 hW3 _ o ho K hK
            cases ho
            have hb13 := hb12.trans (hW3.mono hb12.size)
            have HO3 := Lib.hid (ownsRow_below HO1.out hW3)
            simp only [putS, List.foldl_cons, List.foldl_nil, Act.put, List.setIfInBounds_toArray, List.set_cons_succ, List.set_cons_zero]
            refine step_build2 rfl 35 0 1 (.tmp 57) (.tmp 61) rfl (.agg (sumC tr).toArray) (.slice A5 n c5) rfl rfl _ (built35 tr A5 n c5) ?_
            refine hK _ _ (by intro F hF; simp at hF; rcases hF with rfl | rfl <;> exact ⟨rfl, by simp [Act.put]⟩) (Below.refl _ _) ?_
            clear hK K hW3
            intro v3 W4 hW4 hall
            obtain ⟨B, hvB, hBw, hBb⟩ := hall (floVar 7 7 35 (fetchC z32 none 0 0).toArray) (by simp) (floVar 7 7 35 (fetchC z32 none 0 0).toArray) (by simp) rfl
            have hvB' : v3 7 = .pointer (some ⟨B, 0, none⟩) := hvB
            have hb14 := hb13.trans (hW4.mono hb13.size)
            have hO4 := ownsRow_below HO3.out hW4
            obtain ⟨hf1, hf2, hf3⟩ := after_store hBb hO4 (by omega) (by decide) hb14 hBw (fetchC tr A5 n c5).toArray
            simp only [Exit.then, putS, List.foldl_cons, List.foldl_nil, Act.put, List.setIfInBounds_toArray, List.set_cons_succ, List.set_cons_zero]
            rw [hvB']
            refine wpList_store_row rfl 35 (.tmp 7) (.tmp 62) rfl B (fetchC tr A5 n c5).toArray rfl rfl 35 (fetchC z32 none 0 0).toArray hBb (size35 _ (by simp [fetchC_len])) (by simp [fetchC_len]) (fetch_one _ _ _ _) ?_
            refine wpList_nil ?_
            simp only [Act.put, List.setIfInBounds_toArray, List.set_cons_succ, List.set_cons_zero]
            have Hf1 := Lib.hid hf1
            have Hf2 := Lib.hid hf2
            have Hf3 := Lib.hid hf3
            clear hf1 hf2 hf3 hBb hO4 hvB hvB' hall hW4
            go_wp2_with fail
            go_meet
            exact ⟨B, A5, c5, rfl, hBw, Hf1.out, Hf2.out, Hf3.out, hc5⟩
          case rest =>
            obtain ⟨B, A', c', rfl, hwB, hBf, hO, hb3, hnc'⟩ := hcut
            clear c32r Hrt2
            obtain ⟨g, rfl⟩ : ∃ g, A' = some ⟨g, 0, none⟩ := by
              rcases hO.2 with ⟨_, h0⟩ | ⟨g, _, _, hv, _⟩
              · omega
              · cases hv; exact ⟨g, rfl⟩
            obtain ⟨cur, hcur⟩ := ownsRow_blk hO
            obtain ⟨bq, oq, vq, eq, hvq, hcq⟩ := (Rd.of_own hO).at_ hkn
            cases eq
            rw [Nat.zero_add] at hcq
            have e32 : wc.cell? ⟨B, 32, none⟩ = some (.slice (some ⟨g, 0, none⟩) n c') := by rw [hBf.cell]; exact fetchC_have _ _ _ _
            have e32r := cell_regrown e32
            have k0c := (hb3.cell (World.block_lt_of_cell? w2 _ k0b)).trans k0b
            have k1c := (hb3.cell (World.block_lt_of_cell? w2 _ k1b)).trans k1b
            have k0r := cell_regrown k0c
            have k1r := cell_regrown k1c
            have hgB : g ≠ B := hcur.ne hBf (by decide)
            have hZ3 := HZ2.out.below hb3 HZ2.out.lt
            have HD3 := Lib.hid (HD2.out.below hb3)
            have HZ3 := Lib.hid hZ3
            have HO := Lib.hid hO
            have HBf := Lib.hid hBf
            have Hcur := Lib.hid hcur
            have Hb3 := Lib.hid hb3
            have Hcq := Lib.hid hcq
            have hgw := hcur.lt
            have hBw := hBf.lt
            have hZw := hZ3.lt
            clear hZ3 hO hBf hcur hb3 e32 hcq k0b k1b k0c k1c
            go_upto_region 9 with fail
            refine wp_region_reads_tail 8 [0, 1, 2, 3, 5, 6] 2 (by kernel_rfl) (List.take_append_drop _ _) rfl (by kernel_rfl) (by kernel_rfl) (by kernel_rfl) (by decide) (by kernel_rfl) (by kernel_rfl) (fun _ _ d _ _ h => by cases d <;> exact h) (by kernel_rfl) (by kernel_rfl) rfl ?_
            simp only [List.take_succ_cons, List.take_zero, List.drop_succ_cons, List.drop_zero, pickOps, List.getElem?_cons_zero, List.getElem?_cons_succ]
            repeat (go_big_quiet_step (fail))
            refine wpQuiet_nil ?_
            refine web_start0 (fs := [floNil 4 67 5]) [.act 7 [4]] _ _ (by kernel_rfl) (fun _ _ d _ _ h => by cases d <;> exact h) ⟨⟨_, rfl, flo_nil rfl rfl rfl run_empty5⟩, trivial⟩ (by decide) (by decide) (by kernel_rfl) (by kernel_rfl) (ext_drew (ext_refl _)) (by intro F hF; simp at hF; subst hF; simp) 2 (by decide) (by kernel_rfl) ?_
            intro v1 W hW hneed o ho K hK
            cases ho
            obtain ⟨B2, hv2, hB2, hblk2⟩ := hneed 4 (by simp) (floNil 4 67 5) (by simp) rfl
            have hbW : Below wc.heap.size wc W := ((Below.refl _ wc).drew).trans hW
            simp only [putS, List.foldl_cons, List.foldl_nil, Act.put, List.setIfInBounds_toArray, List.set_cons_succ, List.set_cons_zero]
            refine step_appe rfl (.tmp 67) (.tmp 69) 22 rfl 5 i5 (.int .u8 0) 1 1 Tryd.underlying22 hi5 hz5 hs5 hy5 rfl (by omega) wc.heap.size B2 hB2 hblk2 ?_ D dl dc (d.map byteV) rfl (HD3.out.below hbW) (by unfold maxLen; omega) (by omega) ?_
            · exact hv2
            intro x1 W2 ha1 hb1 _
            refine hK _ _ (by intro F hF; simp at hF; subst hF; exact ⟨rfl, by simp [Act.put]⟩) hb1 ?_
            have hb12 := hbW.trans (hb1.mono hbW.size)
            clear hK K hW hneed
            obtain ⟨Ad, cd, rfl, hcd, _⟩ := ha1.rd
            have htd2 : TRd W2 5 1 Ad dl (d.map byteV) := by
              rcases ha1 with ⟨h0, _⟩ | h
              · omega
              · exact TRd.of_own h
            intro v2 W5 hW5 _
            have hb5 := hb12.trans (hW5.mono hb12.size)
            have htd := htd2.below hW5
            simp only [Exit.then, putS, List.foldl_cons, List.foldl_nil, Act.put, List.setIfInBounds_toArray, List.set_cons_succ, List.set_cons_zero]
            have hcur5 := Hcur.out.below hb5 hgw
            have hO5 : W5.ownsRow w2.heap.size 22 1 (.slice (some ⟨g, 0, none⟩) n c') n (vs.map slV) := ownsRow_below HO.out hb5
            have hc5 := (hb5.cell (World.block_lt_of_cell? wc _ Hcq.out)).trans Hcq.out
            have hc5' : W5.cell? ⟨g, k, none⟩ = some (.slice vq.a vq.n vq.c) := hc5
            have hfr := hcur5.frozen k
            have hset := ownsRow_set hO5 (g := g) rfl k (slV ⟨Ad, dl, cd⟩)
            rw [← List.map_set] at hset
            have hK1 := (KeptIn.refl (fun q => q ≠ g) W5).setAt (p := ⟨g, k, none⟩) (fun h => h rfl) (slV ⟨Ad, dl, cd⟩)
            have hBf6 := (HBf.out.below hb5 hBw).keptIn hK1 (fun e => hgB e.symm)
            have hZ6 := (HZ3.out.below hb5 hZw).keptIn hK1 (fun e => (hcur5.ne (HZ3.out.below hb5 hZw) (by decide)) e.symm)
            have htd6 := htd.kept hcur5 (by decide) hK1
            have hwg : w.heap.size ≤ g := by have := (hO5.lt g rfl).1; have := HB2.out.size; omega
            have hB6 : Below w.heap.size w (W5.setCell ⟨g, k, none⟩ (slV ⟨Ad, dl, cd⟩)) := (HB2.out.trans ((Hb3.out.trans (hb5.mono Hb3.out.size)).mono HB2.out.size)).setCell hwg _
            have Hset := Lib.hid hset
            have HBf6 := Lib.hid hBf6
            have HZ6 := Lib.hid hZ6
            have Htd6 := Lib.hid htd6
            have HB6 := Lib.hid hB6
            clear hset hBf6 hZ6 htd6 hB6 hK1 hO5 hcur5 hc5 htd htd2 hb5 hb12 hb1 hbW e32r HO HBf Hcur Hcq HZ3 hW5 k0r k1r
            go_upto_region 10 with fail
            obtain ⟨wf, hwf⟩ : ∃ wf, wf = W5.setCell ⟨g, k, none⟩ (slV ⟨Ad, dl, cd⟩) := ⟨_, rfl⟩
            rw [show W5.setCell ⟨g, k, none⟩ (.slice Ad dl cd) = wf from hwf.symm]
            rw [← hwf] at Hset HBf6 HZ6 Htd6 HB6
            have hK0 := (KeptIn.refl (fun q => q ≠ g) W5).setAt (p := ⟨g, k, none⟩) (fun h => h rfl) (slV ⟨Ad, dl, cd⟩)
            rw [← hwf] at hK0
            clear hwf
            have hst := after_store HZ6.out Hset.out (by omega) (by decide) HB6.out (show w.heap.size ≤ w.heap.size + 2 by omega) (fetchC tr (some ⟨g, 0, none⟩) n c').toArray
            have hKf := (KeptIn.refl (fun q => q ≠ w.heap.size + 2) wf).setRow (g := w.heap.size + 2) (fun h => h rfl) (fetchC tr (some ⟨g, 0, none⟩) n c').toArray
            have htdf := Htd6.out.kept HZ6.out (by decide) hKf
            have Hst := Lib.hid hst
            have Htdf := Lib.hid htdf
            clear hst hKf htdf hc5' hfr hK0
            go_wp2_with (first | (refine wpList_load_mid rfl 35 (.tmp 7) rfl B 0 rfl (fetchC tr (some ⟨g, 0, none⟩) n c') _ (fetch_range HBf6.out) hd35 hrow35 (by rw [fetchC_len]; kernel_rfl) ?_) | (refine wpList_store_row rfl 35 (.tmp 4) (.tmp 72) rfl (w.heap.size + 2) (fetchC tr (some ⟨g, 0, none⟩) n c').toArray rfl rfl 35 (fetchC z32 none 0 0).toArray HZ6.out (size35 _ (by simp [fetchC_len])) (by simp [fetchC_len]) (fetch_one _ _ _ _) ?_))
            refine bodyPost_ret (results_row_tmp rfl _ _ (w.heap.size + 2) 35 (fetchC tr (some ⟨g, 0, none⟩) n c').toArray (0, 0) _ rfl (setRow_heap _ _ _ _ _ _ HZ6.out) hd35 hrow35 (size35 _ (by simp [fetchC_len]))) rfl ⟨some ⟨g, 0, none⟩, ⟨c', by rw [Hv.out]; rfl⟩, ?_, Hst.out.2.2⟩
            rw [Hh.out]
            refine ⟨vs.set k ⟨Ad, dl, cd⟩, TRd.of_own Hst.out.2.1, by rw [List.length_set]; exact Hlv.out, fun q u x hu hx => ?_⟩
            by_cases hkq : k = q
            · subst hkq
              rw [List.getElem?_set_self (by have := (List.getElem?_eq_some_iff.1 hu).1; simpa using this)] at hu
              rw [List.getElem?_set_self (by have := (List.getElem?_eq_some_iff.1 hx).1; simpa using this)] at hx
              cases hu; cases hx
              exact ⟨Htdf.out, hcd⟩
            · rw [List.getElem?_set_ne hkq] at hu hx
              obtain ⟨vs0, hr0, _, hel0⟩ := HT0.out
              have hr02 := hr0.1.below HB2.out
              obtain rfl := Hrv.out.1.uniq hr02
              exact ⟨(hel0 q u x hu hx).1.below Hst.out.2.2, (Hel.out q u x hu hx).2⟩
        · have hh : H = h := by
            rw [HH.out]; unfold takeH
            rw [if_neg (fun q => by
              have := q.2
              rw [Int.toNat_natCast, hgd] at this
              cases x with
              | nil => exact hv0 (by simpa using hvn.symm)
              | cons a t => cases this)]
          have Hh := Lib.hid hh
          have hd0 : decide (0 < v.n) = true := decide_eq_true (by omega)
          have hd1 : decide ((0 : Int) < (v.n : Int)) = true := decide_eq_true (by omega)
          clear hh hrx hx hgd hvn
          go_wp2_with (first | (refine wpList_load_mid rfl 35 (.tmp 2) rfl w.heap.size 0 rfl (fetchC tr (some ⟨bL, oL, none⟩) n c) _ (fetch_range HF2.out) hd35 hrow35 (by rw [fetchC_len]; kernel_rfl) ?_) | (refine wpList_store_row rfl 35 (.tmp 4) (.tmp 55) rfl (w.heap.size + 2) (fetchC tr (some ⟨bL, oL, none⟩) n c).toArray rfl rfl 35 (fetchC z32 none 0 0).toArray HZ2.out (size35 _ (by simp [fetchC_len])) (by simp [fetchC_len]) (fetch_one _ _ _ _) ?_))
          refine bodyPost_ret (results_row_tmp rfl _ _ (w.heap.size + 2) 35 (fetchC tr (some ⟨bL, oL, none⟩) n c).toArray (0, 0) _ rfl (setRow_heap _ _ _ _ _ _ HZ2.out) hd35 hrow35 (size35 _ (by simp [fetchC_len]))) rfl ⟨some ⟨bL, oL, none⟩, c, by rw [Hv.out]; rfl, ?_, Below.setRow HB2.out (by omega) _⟩
          rw [Hh.out]
          exact HT0.out.below (Below.setRow HB2.out (by omega) _)
      · have hck := Hck.out
        rw [decide_eq_false hacc] at hck
        have Hck2 := Lib.hid hck
        have hv : E = 150 := by rw [HEv.out, if_neg hacc]
        have hh : H = h := by rw [HH.out]; unfold takeH; rw [if_neg (fun q => by rw [← HE.out, hv] at q; exact absurd q.1 (by decide))]
        have Hv := Lib.hid hv
        have Hh := Lib.hid hh
        clear hck hv hh Hck HEv hacc
        go_wp2_with (refine wpList_load_mid rfl 33 (.tmp 31) rfl w.heap.size 0 rfl (sumC tr) _ Hrt.out und32 rfl (by rw [sumC_len]; kernel_rfl) ?_)
        refine Hck2.out.mono ?_
        rintro e w2 ⟨rfl, hb2⟩
        have HF2 := Lib.hid (HF.out.below hb2 HF.out.lt)
        have HZ2 := Lib.hid (HZ.out.below hb2 HZ.out.lt)
        have HB2 := Lib.hid (HB.out.trans (hb2.mono HB.out.size))
        clear hb2 c32 k0 k1 k2 Hck2 Hrt
        go_wp2_with (first | (refine wpList_load_mid rfl 35 (.tmp 2) rfl w.heap.size 0 rfl (fetchC tr A n c) _ (fetch_range HF2.out) hd35 hrow35 (by rw [fetchC_len]; kernel_rfl) ?_) | (refine wpList_store_row rfl 35 (.tmp 4) (.tmp 46) rfl (w.heap.size + 2) (fetchC tr A n c).toArray rfl rfl 35 (fetchC z32 none 0 0).toArray HZ2.out (size35 _ (by simp [fetchC_len])) (by simp [fetchC_len]) (fetch_one _ _ _ _) ?_))
        refine bodyPost_ret (results_row_tmp rfl _ _ (w.heap.size + 2) 35 (fetchC tr A n c).toArray (0, 0) _ rfl (setRow_heap _ _ _ _ _ _ HZ2.out) hd35 hrow35 (size35 _ (by simp [fetchC_len]))) rfl ⟨A, c, by rw [Hv.out]; rfl, ?_, Below.setRow HB2.out (by omega) _⟩
        rw [Hh.out]
        exact HT0.out.below (Below.setRow HB2.out (by omega) _)
end Go.Proofs.YthlecmmngldodaaDoor
