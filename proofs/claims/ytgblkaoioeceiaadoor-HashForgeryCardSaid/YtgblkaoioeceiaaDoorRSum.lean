/- The reference's Sum. -/
import Derived.Test.YtgblkaoioeceiaaDoorRBlk
namespace Go.Proofs.YtgblkaoioeceiaaDoor
open Go.RowKit Go.Sort

theorem built32 : Tryd.prog.built 32 [] = some zero32 := by kernel_rfl
theorem zero32_start (l : List UInt8) : zero32 = ((l.take 0 ++ List.replicate (32 - 0) (0 : UInt8)).map byteV).toArray := by
  rw [List.take_zero, List.nil_append]
  kernel_rfl
theorem size_zero32 : zero32.size = 32 := by kernel_rfl
theorem stArr_size (s : St) : (stArr s).size = 8 := rfl
theorem zero32_one : zero32.all (·.oneCell') = true := by kernel_rfl
set_option maxRecDepth 100000 in
set_option maxHeartbeats 2000000 in
theorem RSum_any (A : Option Addr) (len cap : Nat) (bs : List UInt8) (w : World) (hr : Rd w 1 A len (bs.map byteV)) (hlen : len ≤ 8796093022000) :
    Calls Tryd.prog 15 #[.slice A len cap] w fun e w' => e = .returned (sumV (sha bs)) ∧ Below w.heap.size w w' := by
  have hl := hr.len1
  obtain ⟨i61, hi61, hz61, _, _⟩ := info_parts info61
  obtain ⟨i32, hi32, hz32, _, _⟩ := info_parts info32
  go_enter Tryd.func15, Tryd.ntmps15
  go_upto_region 1 with (refine wpList_alloc0 rfl 32 rfl zero32 (.agg zero32) i32 hi32 hz32 rfl ?_; simp only [Act.put, List.setIfInBounds_toArray, List.set_cons_succ, List.set_cons_zero])
  obtain ⟨w1, hw1⟩ : ∃ w1, w1 = w.alloc (.cells zero32 32) := ⟨_, rfl⟩
  have hB1 : Below w.heap.size w w1 := by rw [hw1]; exact (Below.refl _ _).alloc (Nat.le_refl _) _
  have hs1 : w1.heap.size = w.heap.size + 1 := by rw [hw1]; simp
  have hO1 : Blk w1 w.heap.size 32 zero32 := by rw [hw1]; exact Blk.new _ _ _
  rw [← hw1]
  have Hr1 := Lib.hid (hr.below hB1)
  have Hs1 := Lib.hid hs1
  have HB1 := Lib.hid hB1
  have HO1 := Lib.hid hO1
  clear hw1 hs1 hB1 hO1 hr
  go_wp2_with fail
  refine (Starts_any w1).mono ?_
  rintro e w2 ⟨rfl, hb2⟩
  have Hb2 := Lib.hid hb2
  have Hr2 := Lib.hid (Hr1.out.below hb2)
  clear hb2
  go_wp2_with fail
  refine (RPad_any A len cap bs w2 Hr2.out (by omega)).mono ?_
  rintro e w3 ⟨A3, L, c3, rfl, hc3, hr3, hb3⟩
  have hLl := hr3.len1
  have hpl := padded_length bs
  have hpb := padded_blocks bs
  have hLb : L ≤ 8796093022100 := by
    have h1 := hLl
    have h2 := padLen_lt bs.length
    rw [hpl] at h1
    omega
  obtain ⟨b, off, rfl, _⟩ := hr3.2.2 (by omega)
  have Hb3 := Lib.hid (Hb2.out.trans (hb3.mono Hb2.out.size))
  have Hr3 := Lib.hid hr3
  clear hb3 hr3
  have hz3 : (w3.alloc (.cells zeros8 61)).heap.size = w3.heap.size + 1 := by simp
  have hH1 : ((w3.alloc (.cells zeros8 61)).alloc (.cells zero32 32)).heap[w3.heap.size]? = some (.cells zeros8 61 (0, 0)) := heap_alloc2_old _ _ _
  have hH2 : (((w3.alloc (.cells zeros8 61)).alloc (.cells zero32 32)).setRow w3.heap.size (stArr stInit)).heap[w3.heap.size + 1]? = some (.cells zero32 32 (0, 0)) := (setRow_other _ w3.heap.size (w3.heap.size + 1) _ (by omega)).trans (heap_alloc2_new _ _ _)
  go_wp2_with (first | (refine wpList_alloc0 rfl 61 rfl zeros8 (.agg zeros8) i61 hi61 hz61 rfl ?_; simp only [Act.put, List.setIfInBounds_toArray, List.set_cons_succ, List.set_cons_zero]) | (refine wpList_alloc0 rfl 32 rfl zero32 (.agg zero32) i32 hi32 hz32 rfl ?_; simp only [Act.put, List.setIfInBounds_toArray, List.set_cons_succ, List.set_cons_zero, hz3]) | (refine wpList_build0 rfl 32 rfl zero32 built32 ?_) | (refine wpList_store_row rfl 61 (.tmp 3) (.tmp 8) rfl w3.heap.size _ rfl rfl 61 zeros8 hH1 (size61 _ rfl) rfl (stArr_one _) ?_; simp only [Act.put]) | (refine wpList_store_row rfl 32 (.tmp 5) (.tmp 11) rfl (w3.heap.size + 1) zero32 rfl rfl 32 zero32 hH2 (size32 _ rfl) rfl zero32_one ?_; simp only [Act.put]))
  obtain ⟨w4, hw4⟩ : ∃ w4, w4 = ((((w3.alloc (.cells zeros8 61)).alloc (.cells zero32 32)).setRow w3.heap.size (stArr stInit)).setRow (w3.heap.size + 1) zero32) := ⟨_, rfl⟩
  have hB4 : Below w3.heap.size w3 w4 := by rw [hw4]; exact Below.setRow (Below.setRow (((Below.refl _ _).alloc (Nat.le_refl _) _).alloc (by simp) _) (Nat.le_refl _) _) (by omega) _
  have hS4 : Blk w4 w3.heap.size 61 (stArr (stRun stInit (padded bs) 0)) := by
    rw [hw4]
    exact (setRow_other _ (w3.heap.size + 1) w3.heap.size _ (by omega)).trans (setRow_heap _ _ _ _ _ _ (heap_alloc2_old _ _ _))
  have hT4 : Blk w4 (w3.heap.size + 1) 32 zero32 := by
    rw [hw4]
    exact setRow_heap _ _ _ _ _ _ ((setRow_other _ w3.heap.size (w3.heap.size + 1) _ (by omega)).trans (heap_alloc2_new _ _ _))
  rw [← hw4]
  have HO4 := Lib.hid ((HO1.out.below Hb3.out (by have := Hs1.out; omega)).below hB4 (by have := Hb3.out.size; have := Hs1.out; omega))
  have HB4 := Lib.hid ((HB1.out.trans (Hb3.out.mono HB1.out.size)).trans (hB4.mono (by have := HB1.out.size; have := Hb3.out.size; omega)))
  have Hr4 := Lib.hid (Hr3.out.below hB4)
  have hs4 : w3.heap.size + 1 < w4.heap.size := hT4.lt
  have hb3 : b < w3.heap.size := Hr3.out.lt (by omega) (by omega) rfl
  have hw3 : w.heap.size < w3.heap.size := by have := Hb3.out.size; have := Hs1.out; omega
  clear hw4 hB4
  have HT4 := Lib.hid hT4
  clear hT4
  go_wp2_with fail
  go_loopw [6] (fun t wr => ∃ k : Nat, 64 * k ≤ L ∧ t = .int .i64 (((64 * k : Nat)) : Int) ∧ Blk wr w3.heap.size 61 (stArr (stRun stInit (padded bs) k)) ∧ KeptIn (fun k => k < w4.heap.size ∧ k ≠ w3.heap.size) w4 wr) (fun t _ => L - (intOf t).toNat)
  case atStart => exact ⟨0, by omega, rfl, hS4, KeptIn.refl _ _⟩
  case round =>
    obtain ⟨k, hk, rfl, hS, hK⟩ := hrel
    clear hS4
    by_cases hlt : 64 * k < L
    · obtain ⟨m, hm⟩ : ∃ m, m = 64 * k := ⟨_, rfl⟩
      rw [← hm] at hlt hk ⊢
      obtain ⟨M, hM⟩ : ∃ M, M = m + 64 := ⟨_, rfl⟩
      have hsl := run_slice_part (P := Tryd.prog) 22 5 b off L c3 m M Tryd.underlying22 size22' (by omega) (by omega) (by omega)
      rw [show M - m = 64 from by omega] at hsl
      have hw64 : (m : Int) + 64 = (M : Int) := by omega
      have hrr : Rd wr 1 (some ⟨b, off, none⟩) L ((padded bs).map byteV) := Hr4.out.keptIn hK (fun b' o' _ e => by cases e; exact ⟨by omega, by omega⟩)
      have hpt := hrr.part (i := m) (j := m + 64) (by omega) (by omega)
      rw [Nat.add_sub_cancel_left] at hpt
      have hst : stRun stInit (padded bs) (k + 1) = stBlock (stRun stInit (padded bs) k) (((padded bs).take (m + 64)).drop m) := by
        rw [stRun]
        subst hm
        refine stBlock_congr (fun j hj => ?_) _
        rw [List.getD_eq_getElem?_getD, List.getD_eq_getElem?_getD, List.getElem?_drop, List.getElem?_drop, List.getElem?_take, if_pos (by omega)]
      have hBk : ∀ W, Below wr.heap.size wr W → Calls Tryd.prog 36 #[.agg (stArr (stRun stInit (padded bs) k)), .slice (some ⟨b, off + m, none⟩) 64 (c3 - m)] W fun e w' => e = .returned (.agg (stArr (stRun stInit (padded bs) (k + 1)))) ∧ Below W.heap.size W w' := fun W hW => by
        rw [hst]
        exact RBlock_any _ _ 64 _ _ W (hpt.below hW) (Nat.le_refl _)
      have Hbk := Lib.hid hBk
      have hSl : wr.heap[w3.heap.size]? = some (.cells (stArr (stRun stInit (padded bs) k)) 61 (0, 0)) := hS
      have hlt3 : w3.heap.size < wr.heap.size := hS.lt
      generalize stRun stInit (padded bs) k = z at *
      generalize hz1 : stRun stInit (padded bs) (k + 1) = z1 at *
      have hrg : ∀ w', Ext wr w' → w'.rangeAt w3.heap.size 0 [u32V z.a, u32V z.b, u32V z.c, u32V z.d, u32V z.e, u32V z.f, u32V z.g, u32V z.h] := fun w' hw' => Blk.range (Blk.below (show Blk wr w3.heap.size 61 [u32V z.a, u32V z.b, u32V z.c, u32V z.d, u32V z.e, u32V z.f, u32V z.g, u32V z.h].toArray from hS) (ext_below hw') hlt3)
      have Hrg := Lib.hid hrg
      have HS := Lib.hid hS
      have Hm := Lib.hid hm
      have HM := Lib.hid hM
      have HK := Lib.hid hK
      have Hz1 := Lib.hid hz1
      clear hpt hst hBk hSl hrg hS hK hz1 hrr hm hM
      go_wp2_with fail
      refine wp_region_reads_tail 7 [0, 1, 2, 3, 4, 5] 1 (by kernel_rfl) (List.take_append_drop _ _) rfl (by kernel_rfl) (by kernel_rfl) (by kernel_rfl) (by decide) (by kernel_rfl) (by kernel_rfl) (fun _ _ d _ _ h => by cases d <;> exact h) (by kernel_rfl) (by kernel_rfl) rfl ?_
      simp only [List.take_succ_cons, List.take_zero, List.drop_succ_cons, List.drop_zero, pickOps, List.getElem?_cons_zero, List.getElem?_cons_succ]
      repeat (first | go_big_quiet_step (fail) | rw [hw64] | (refine wpQuiet_load_mid rfl 61 _ rfl w3.heap.size 0 rfl _ _ Hrg.out und61 rfl (by kernel_rfl) ?_; simp only [Act.put, List.setIfInBounds_toArray, List.set_cons_succ, List.set_cons_zero]))
      refine wpQuiet_nil ?_
      refine wpAnyH_one (i := 6) (by kernel_rfl) rfl ?_
      intro K hK2
      go_simp
      refine (Hbk.out wr.drew (Below.refl _ wr).drew).mono ?_
      rintro e W1 ⟨rfl, hb1⟩
      have hB1 : Below wr.heap.size wr W1 := (Below.refl _ wr).drew.trans hb1
      refine hK2 _ _ (ext_of hB1) ?_
      clear hK2 K
      refine wpAnyH_done (by kernel_rfl) ?_ _
      simp only [Exit.then]
      have hS1 := HS.out.below hB1 hlt3
      refine wpList_store_row rfl 61 (.tmp 3) (.tmp 24) rfl w3.heap.size (stArr z1) rfl rfl 61 (stArr z) hS1 (size61 _ (stArr_size z1)) ((stArr_size z).trans (stArr_size z1).symm) (stArr_one _) ?_
      refine wpList_nil ?_
      have hK5 := (HK.out.trans (KeptIn.of_below hB1 (fun k hk => Nat.lt_of_lt_of_le hk.1 HK.out.size))).setRow (g := w3.heap.size) (fun h => h.2 rfl) (stArr z1)
      have hS5 : Blk (W1.setRow w3.heap.size (stArr z1)) w3.heap.size 61 (stArr z1) := setRow_heap _ _ _ _ _ _ hS1
      have HK5 := Lib.hid hK5
      have HS5 := Lib.hid hS5
      clear hK5 hS5 hS1 hB1 hb1
      simp only [Act.put]
      go_wp2_with fail
      refine ⟨⟨k + 1, by have := Hm.out; omega, by rw [HM.out, Hm.out]; congr 1, by rw [Hz1.out]; exact HS5.out, HK5.out⟩, by have := HM.out; simp [intOf]; omega⟩
    · obtain rfl : k = L / 64 := by omega
      have hsha := sha_run bs
      rw [hLl] at hsha
      generalize stRun stInit (padded bs) (L / 64) = st at *
      have hT : Blk wr (w3.heap.size + 1) 32 zero32 := HT4.out.keptIn hK ⟨by omega, by omega⟩
      have hO3 : Blk wr w.heap.size 32 zero32 := HO4.out.keptIn hK ⟨by omega, by omega⟩
      have hB3 : Below w.heap.size w wr := HB4.out.trans (hK.below (fun k hk => ⟨by omega, by omega⟩))
      have hbg := stBytes_get st
      have Hsha := Lib.hid hsha
      have Hbg := Lib.hid hbg
      obtain ⟨wf, hwf⟩ : ∃ wf, wf = wr := ⟨_, rfl⟩
      subst hwf
      have hcell : ∀ q, q < 8 → wf.cell? ⟨w3.heap.size, q, none⟩ = some (.int .u32 (((stList st).getD q 0).toNat : Int)) := fun q hq => by
        rw [hS.cell q]
        have : q = 0 ∨ q = 1 ∨ q = 2 ∨ q = 3 ∨ q = 4 ∨ q = 5 ∨ q = 6 ∨ q = 7 := by omega
        rcases this with rfl | rfl | rfl | rfl | rfl | rfl | rfl | rfl <;> rfl
      have Hcell := Lib.hid hcell
      have HB3 := Lib.hid hB3
      have HO3 := Lib.hid hO3
      have HT := Lib.hid hT
      have hBs := hS.lt
      have hO3lt := hO3.lt
      have hTlt := hT.lt
      clear hcell hB3 hO3 hS hT hK hbg hsha HO4 HB4 HT4
      go_wp2_with fail
      go_loopw [7] (fun t wx => ∃ i : Nat, i ≤ 32 ∧ t = .int .i64 i ∧ Blk wx (w3.heap.size + 1) 32 (((stBytes st).take i ++ List.replicate (32 - i) 0).map byteV).toArray ∧ KeptIn (fun k => k < wf.heap.size ∧ k ≠ w3.heap.size + 1) wf wx) (fun t _ => 32 - (intOf t).toNat)
      case atStart => exact ⟨0, by omega, rfl, by rw [← zero32_start]; exact HT.out, KeptIn.refl _ _⟩
      case round =>
        obtain ⟨i, hi, rfl, hN1, hK⟩ := hrel
        by_cases hi32 : i < 32
        · have hc := (hK.cell (p := ⟨w3.heap.size, i / 4, none⟩) ⟨hBs, by simp⟩).trans (Hcell.out (i / 4) (by omega))
          have hbi := Hbg.out i hi32
          generalize (stList st).getD (i / 4) 0 = x at *
          have o1 : wr.cell? ⟨w3.heap.size + 1, i, none⟩ = some (.int .u8 0) := by
            rw [hN1.cell i, List.getElem?_toArray, List.getElem?_map, List.getElem?_append_right (by simp [stBytes_length]; omega), List.getElem?_replicate, if_pos (by simp [stBytes_length]; omega)]
            rfl
          have o2 := hN1.frozen i
          have HN := Lib.hid hN1
          have HK := Lib.hid hK
          have Hbi := Lib.hid hbi
          clear hN1 hK hbi
          go_wp2_with fail
          rw [show ((x.toNat : Int) / 2 ^ (24 - 8 * (i % 4)) % 256) = ((UInt8.ofNat (x.toNat / 2 ^ (24 - 8 * (i % 4)))).toNat : Int) from by rw [UInt8.toNat_ofNat']; simp]
          refine ⟨⟨i + 1, by omega, by go_num, ?_, HK.out.setAt (p := ⟨w3.heap.size + 1, i, none⟩) (fun h => h.2 rfl) _⟩, by simp [intOf]; omega⟩
          refine (heap_setCell_same wr _ i _ 32 _ HN.out).trans ?_
          congr 2
          rw [List.setIfInBounds_toArray]
          congr 1
          exact set_next _ i _ stBytes_length' Hbi.out
        · obtain rfl : i = 32 := by omega
          have hO4 := HO3.out.keptIn hK ⟨hO3lt, by omega⟩
          have hB4 := HB3.out.trans (hK.below (fun k hk => ⟨by omega, by omega⟩))
          rw [List.take_of_length_le (by rw [stBytes_length]; omega), Nat.sub_self, List.replicate_zero, List.append_nil, ← Hsha.out] at hN1
          have hcs : ((sha bs).map byteV).toArray.size = 32 := by simp [sha_length bs]
          have HN := Lib.hid hN1
          have HO4 := Lib.hid hO4
          have HB4 := Lib.hid hB4
          clear hN1 hK hO4 hB4
          go_wp2_with (first | (refine wpList_load_row rfl 32 (.tmp 5) rfl (w3.heap.size + 1) rfl 32 ((sha bs).map byteV).toArray (0, 0) _ HN.out und32 rfl (size32 _ hcs) ?_) | (refine wpList_store_row rfl 32 (.tmp 2) (.tmp 41) rfl w.heap.size ((sha bs).map byteV).toArray rfl rfl 32 zero32 HO4.out (size32 _ hcs) (size_zero32.trans hcs.symm) (all_oneCell_toArray (oneB _)) ?_))
          refine bodyPost_ret (results_cell_row rfl _ _ w.heap.size 32 ((sha bs).map byteV).toArray (0, 0) _ rfl (setRow_heap _ _ _ _ _ _ HO4.out) und32 rfl (size32 _ hcs)) rfl ⟨rfl, Below.setRow HB4.out (Nat.le_refl _) _⟩
end Go.Proofs.YtgblkaoioeceiaaDoor
