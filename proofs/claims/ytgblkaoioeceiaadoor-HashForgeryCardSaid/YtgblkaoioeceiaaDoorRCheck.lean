/- The reference's Check. -/
import Derived.Test.YtgblkaoioeceiaaDoorRSides
namespace Go.Proofs.YtgblkaoioeceiaaDoor
open Go.RowKit Go.Sort

def claimV (n i : Int) (A : Option Addr) (len cap : Nat) (B : Option Addr) (m c : Nat) : Array Value := #[.int .i64 n, .int .i64 i, .slice A len cap, .slice B m c]
theorem foldS_step (ss : List Nat) (p : List Sum32) (k s : Nat) (a x : Sum32) (hs : ss[k]? = some s) (ha : p[k]? = some a) :
    foldS (ss.drop k) x (p.drop k) = foldS (ss.drop (k + 1)) (if s = 1 then pairS a x else pairS x a) (p.drop (k + 1)) := by
  have h1 := (List.getElem?_eq_some_iff.1 hs)
  have h2 := (List.getElem?_eq_some_iff.1 ha)
  obtain ⟨l1, e1⟩ := h1
  obtain ⟨l2, e2⟩ := h2
  rw [List.drop_eq_getElem_cons l1, List.drop_eq_getElem_cons l2, e1, e2]
  rfl

set_option maxRecDepth 100000 in
set_option maxHeartbeats 1000000 in
theorem RCheck_bad (rt : Sum32) (n i : Int) (A B : Option Addr) (len cap m c : Nat) (hi : i < 0 ∨ n ≤ i) (w : World) :
    Calls Tryd.prog 24 #[.agg (sumC rt).toArray, .agg (claimV n i A len cap B m c)] w fun e w' => e = .returned (.bool false) ∧ Below w.heap.size w w' := by
  have hB : Below w.heap.size w ((w.alloc (.cells (sumC rt).toArray 32)).alloc (.cells (claimV n i A len cap B m c) 41)) := ((Below.refl _ _).alloc (Nat.le_refl _) _).alloc (by simp) _
  have hC1 : Blk ((w.alloc (.cells (sumC rt).toArray 32)).alloc (.cells (claimV n i A len cap B m c) 41)) (w.heap.size + 1) 41 (claimV n i A len cap B m c) := by
    have := Blk.new (w.alloc (.cells (sumC rt).toArray 32)) 41 (claimV n i A len cap B m c)
    rwa [World.size_alloc] at this
  have HB := Lib.hid hB
  clear hB
  go_enter Tryd.func24, Tryd.ntmps24
  go_upto_region 1 with fail
  obtain ⟨w1, hw1⟩ : ∃ w1, w1 = (w.alloc (.cells (sumC rt).toArray 32)).alloc (.cells (claimV n i A len cap B m c) 41) := ⟨_, rfl⟩
  rw [← hw1] at hC1 HB
  rw [← hw1]
  clear hw1
  have c0 : w1.cell? ⟨w.heap.size + 1, 0, none⟩ = some (.int .i64 n) := by rw [hC1.cell]; rfl
  have c1 : w1.cell? ⟨w.heap.size + 1, 1, none⟩ = some (.int .i64 i) := by rw [hC1.cell]; rfl
  clear hC1
  by_cases h0 : i < 0
  · go_wp2_with fail
    go_ret
    exact ⟨rfl, HB.out⟩
  · have h1 : n ≤ i := by omega
    clear hi
    go_wp2_with fail
    go_ret
    exact ⟨rfl, HB.out⟩

set_option maxRecDepth 100000 in
set_option maxHeartbeats 2000000 in
theorem RCheck_any (rt : Sum32) (n i : Nat) (A B : Option Addr) (len cap m c : Nat) (bs : List UInt8) (p : List Sum32) (hi : i < n) (hn : n ≤ 1000) (w : World) (hr : Rd w 1 A len (bs.map byteV)) (hlen : len ≤ 8796093021000) (hp : Rd w 32 B m (p.flatMap sumC)) :
    Calls Tryd.prog 24 #[.agg (sumC rt).toArray, .agg (claimV n i A len cap B m c)] w fun e w' => e = .returned (.bool (decide (chkL n i (leafS bs) p = some rt))) ∧ Below w.heap.size w w' := by
  obtain ⟨i32, hi32, hz32, _, _⟩ := info_parts info32
  rw [chk_sides n n i (leafS bs) p (Nat.le_refl _) hi]
  obtain ⟨res, hres⟩ : ∃ r, decide (foldS (sidesL n i) (leafS bs) p = some rt) = r := ⟨_, rfl⟩
  rw [hres]
  have hpl := hp.lenf sumC_len (by omega)
  have hml := hp.le
  have hB : Below w.heap.size w ((w.alloc (.cells (sumC rt).toArray 32)).alloc (.cells (claimV n i A len cap B m c) 41)) := ((Below.refl _ _).alloc (Nat.le_refl _) _).alloc (by simp) _
  have hR1 : Blk ((w.alloc (.cells (sumC rt).toArray 32)).alloc (.cells (claimV n i A len cap B m c) 41)) w.heap.size 32 (sumC rt).toArray := (Blk.new _ _ _).alloc _
  have hC1 : Blk ((w.alloc (.cells (sumC rt).toArray 32)).alloc (.cells (claimV n i A len cap B m c) 41)) (w.heap.size + 1) 41 (claimV n i A len cap B m c) := by
    have := Blk.new (w.alloc (.cells (sumC rt).toArray 32)) 41 (claimV n i A len cap B m c)
    rwa [World.size_alloc] at this
  go_enter Tryd.func24, Tryd.ntmps24
  go_upto_region 1 with fail
  obtain ⟨w1, hw1⟩ : ∃ w1, w1 = (w.alloc (.cells (sumC rt).toArray 32)).alloc (.cells (claimV n i A len cap B m c) 41) := ⟨_, rfl⟩
  rw [← hw1] at hC1 hB hR1
  rw [← hw1]
  clear hw1
  have hcell : ∀ W, Below w1.heap.size w1 W → W.cell? ⟨w.heap.size + 1, 0, none⟩ = some (.int .i64 n) ∧ W.cell? ⟨w.heap.size + 1, 1, none⟩ = some (.int .i64 i) ∧ W.cell? ⟨w.heap.size + 1, 2, none⟩ = some (.slice A len cap) ∧ W.cell? ⟨w.heap.size + 1, 3, none⟩ = some (.slice B m c) := fun W hW => by
    have h := hC1.below hW hC1.lt
    exact ⟨by rw [h.cell]; rfl, by rw [h.cell]; rfl, by rw [h.cell]; rfl, by rw [h.cell]; rfl⟩
  obtain ⟨c0, c1, -, -⟩ := hcell w1 (Below.refl _ _)
  have hr1 := hr.below hB
  have hp1 := hp.below hB
  have HB1 := Lib.hid hB
  have HR1 := Lib.hid hR1
  have Hr1 := Lib.hid hr1
  have Hp1 := Lib.hid hp1
  have Hc := Lib.hid hcell
  have Hres := Lib.hid hres
  have Hs := Lib.hid (RSides_any n i hn hi)
  have hs1 : w.heap.size + 1 < w1.heap.size := hC1.lt
  clear hB hR1 hC1 hr hp hr1 hp1 hcell hres
  go_wp2_with fail
  refine (Hs.out w1).mono ?_
  rintro e w2 ⟨A5, c5, rfl, hr5, hb2⟩
  have hs2 := hb2.size
  obtain ⟨-, -, k2, k3⟩ := Hc.out w2 hb2
  have Hr5 := Lib.hid hr5
  have Hb2 := Lib.hid hb2
  clear c0 c1 hb2
  have hsl := hr5.le
  clear hr5
  generalize hss : sidesL n i = ss at *
  clear hss Hs
  by_cases hne : ss.length ≠ m
  · have hf : res = false := by
      have := Hres.out
      rw [foldS_len ss _ p (by omega), decide_eq_false (by simp)] at this
      exact this.symm
    clear k2
    go_wp2_with fail
    go_ret
    exact ⟨by rw [hf]; rfl, HB1.out.trans (Hb2.out.mono (by omega))⟩
  · have hm : ss.length = m := by omega
    clear hne
    subst hm
    have hleaf := RLeaf_any A len cap bs w2 (Hr1.out.below Hb2.out) hlen
    have Hleaf := Lib.hid hleaf
    clear hleaf
    go_wp2_with fail
    refine Hleaf.out.mono ?_
    rintro e w3 ⟨rfl, hb3⟩
    have hs3 := hb3.size
    have Hb3 := Lib.hid (Hb2.out.trans (hb3.mono hs2))
    have hlf := leaf_length bs
    have hH3 : (w3.alloc (.cells zero32 32)).heap[w3.heap.size]? = some (.cells zero32 32 (0, 0)) := heap_alloc_new _ _
    have Hr5b := Lib.hid (Hr5.out.below hb3)
    clear k2 k3 hb3
    unfold sumV
    go_wp2_with (first | (refine wpList_alloc0 rfl 32 rfl zero32 (.agg zero32) i32 hi32 hz32 rfl ?_; simp only [Act.put, List.setIfInBounds_toArray, List.set_cons_succ, List.set_cons_zero]) | (refine wpList_store_row rfl 32 (.tmp 6) (.tmp 31) rfl w3.heap.size _ rfl rfl 32 zero32 hH3 (size32 _ (sumV_size hlf)) ((zero32_size).trans (sumV_size hlf).symm) (all_oneCell_toArray (oneB _)) ?_; simp only [Act.put]))
    have hX0 : Blk ((w3.alloc (.cells zero32 32)).setRow w3.heap.size ((leaf bs).map byteV).toArray) w3.heap.size 32 (sumC (leafS bs)).toArray := setRow_heap _ _ _ _ _ _ hH3
    have hB3 : Below w3.heap.size w3 ((w3.alloc (.cells zero32 32)).setRow w3.heap.size ((leaf bs).map byteV).toArray) := Below.setRow ((Below.refl _ _).alloc (Nat.le_refl _) _) (Nat.le_refl _) _
    clear hH3
    have HX0 := Lib.hid hX0
    have HB3 := Lib.hid hB3
    clear hX0 hB3
    generalize hw4 : (w3.alloc (.cells zero32 32)).setRow w3.heap.size ((leaf bs).map byteV).toArray = w4 at *
    clear hw4
    go_wp2_with fail
    go_loopw [7] (fun vk wr => ∃ (k : Nat) (x : Sum32), vk = .int .i64 (k : Int) ∧ k ≤ ss.length ∧ decide (foldS (ss.drop k) x (p.drop k) = some rt) = res ∧ Blk wr w3.heap.size 32 (sumC x).toArray ∧ Below w3.heap.size w3 wr) (fun vk _ => ss.length - (intOf vk).toNat)
    case atStart => exact ⟨0, leafS bs, rfl, by omega, by simpa using Hres.out, HX0.out, HB3.out⟩
    case round =>
      obtain ⟨k, x, rfl, hk, hck, hX, hB⟩ := hrel
      have hb1 : Below w1.heap.size w1 wr := Hb3.out.trans (hB.mono (by omega))
      obtain ⟨k0, k1, k2, k3⟩ := Hc.out wr hb1
      clear k0 k1 k2
      by_cases hlt : k < ss.length
      · obtain ⟨b5, off5, s, rfl, hst, hc5⟩ := (Hr5b.out.below hB).at_ hlt
        obtain ⟨bp, offp, a, hBe, hpt, hcp⟩ := (Hp1.out.below hb1).flat_ sumC_len (by omega) hlt
        subst hBe
        have hcc := foldS_step ss p k s a x hst hpt
        rw [hcc] at hck
        have haa : ∀ w', Ext wr w' → w'.rangeAt bp (offp + k * 32) (sumC a) := fun w' hw' j v hv => by
          have h0 := hcp j v hv
          rw [← Nat.add_assoc] at h0
          exact ((ext_below hw').cell (World.block_lt_of_cell? wr _ h0)).trans h0
        have hxx : ∀ w', Ext wr w' → w'.rangeAt w3.heap.size 0 (sumC x) := fun w' hw' => Blk.range (hX.below (ext_below hw') hX.lt)
        have Ha := Lib.hid haa
        have Hx := Lib.hid hxx
        have HX := Lib.hid hX
        have HB := Lib.hid hB
        have Hb1 := Lib.hid hb1
        have hc5' : wr.cell? ⟨b5, off5 + k, none⟩ = some (.int .i64 (s : Int)) := hc5
        have k3r := cell_regrown k3
        clear haa hxx hb1 hcp hc5 hpt k3
        by_cases hs1 : s = 1
        · subst hs1
          rw [if_pos rfl] at hck
          have Hck2 := Lib.hid hck
          clear hcc hck hX hB hst
          go_wp2_with fail
          refine wp_region_reads_tail 7 [0, 1, 2, 3, 4, 5] 1 (by kernel_rfl) (List.take_append_drop _ _) rfl (by kernel_rfl) (by kernel_rfl) (by kernel_rfl) (by decide) (by kernel_rfl) (by kernel_rfl) (fun _ _ d _ _ h => by cases d <;> exact h) (by kernel_rfl) (by kernel_rfl) rfl ?_
          simp only [List.take_succ_cons, List.take_zero, List.drop_succ_cons, List.drop_zero, pickOps, List.getElem?_cons_zero, List.getElem?_cons_succ]
          repeat (first | go_big_quiet_step (fail) | (refine wpQuiet_load_mid rfl 32 _ rfl bp _ rfl (sumC a) _ Ha.out und32 rfl (by rw [sumC_len]; kernel_rfl) ?_; simp only [Act.put, List.setIfInBounds_toArray, List.set_cons_succ, List.set_cons_zero]) | (refine wpQuiet_load_mid rfl 32 _ rfl w3.heap.size 0 rfl (sumC x) _ Hx.out und32 rfl (by rw [sumC_len]; kernel_rfl) ?_; simp only [Act.put, List.setIfInBounds_toArray, List.set_cons_succ, List.set_cons_zero]))
          refine wpQuiet_nil ?_
          refine wpAnyH_one (i := 6) (by kernel_rfl) rfl ?_
          intro K hK
          go_simp
          have hpair : Calls Tryd.prog 19 #[.agg (sumC a).toArray, .agg (sumC x).toArray] wr.drew fun e w' => e = .returned (sumV (pair a.1 x.1)) ∧ Below wr.drew.heap.size wr.drew w' := RPair_any a.1 x.1 a.2 x.2 wr.drew
          have Hpair := Lib.hid hpair
          clear hpair
          refine Hpair.out.mono ?_
          rintro e W1 ⟨rfl, hb1⟩
          have hB1 : Below wr.heap.size wr W1 := (Below.refl _ wr).drew.trans hb1
          refine hK _ _ (ext_of hB1) ?_
          clear hK K
          refine wpAnyH_done (by kernel_rfl) ?_ _
          have hpl := pair_length a.1 x.1
          have hX1 : Blk W1 w3.heap.size 32 (sumC x).toArray := HX.out.below hB1 HX.out.lt
          simp only [Exit.then]
          unfold sumV
          refine wpList_store_row rfl 32 (.tmp 6) (.tmp 49) rfl _ _ rfl rfl 32 _ hX1 (size32 _ (sumV_size hpl)) ((by simp [sumC, x.2, hpl])) (all_oneCell_toArray (oneB _)) ?_
          have hX2 : Blk (W1.setRow w3.heap.size ((pair a.1 x.1).map byteV).toArray) w3.heap.size 32 (sumC (pairS a x)).toArray := setRow_heap _ _ _ _ _ _ hX1
          have hB2 : Below w3.heap.size w3 (W1.setRow w3.heap.size ((pair a.1 x.1).map byteV).toArray) := Below.setRow (HB.out.trans (hB1.mono HB.out.size)) (Nat.le_refl _) _
          refine wpList_nil ?_
          have HX2 := Lib.hid hX2
          have HB2 := Lib.hid hB2
          clear hX2 hB2 hX1 hB1 hb1
          generalize (W1.setRow w3.heap.size ((pair a.1 x.1).map byteV).toArray) = W2 at *
          simp only [Act.put]
          go_wp2_with fail
          exact ⟨⟨k + 1, pairS a x, by go_num, by omega, Hck2.out, HX2.out, HB2.out⟩, by simp [intOf]; omega⟩
        · rw [if_neg hs1] at hck
          have Hck2 := Lib.hid hck
          clear hcc hck hX hB hst
          go_wp2_with fail
          refine wp_region_reads_tail 7 [0, 1, 2, 3, 4, 5] 1 (by kernel_rfl) (List.take_append_drop _ _) rfl (by kernel_rfl) (by kernel_rfl) (by kernel_rfl) (by decide) (by kernel_rfl) (by kernel_rfl) (fun _ _ d _ _ h => by cases d <;> exact h) (by kernel_rfl) (by kernel_rfl) rfl ?_
          simp only [List.take_succ_cons, List.take_zero, List.drop_succ_cons, List.drop_zero, pickOps, List.getElem?_cons_zero, List.getElem?_cons_succ]
          repeat (first | go_big_quiet_step (fail) | (refine wpQuiet_load_mid rfl 32 _ rfl bp _ rfl (sumC a) _ Ha.out und32 rfl (by rw [sumC_len]; kernel_rfl) ?_; simp only [Act.put, List.setIfInBounds_toArray, List.set_cons_succ, List.set_cons_zero]) | (refine wpQuiet_load_mid rfl 32 _ rfl w3.heap.size 0 rfl (sumC x) _ Hx.out und32 rfl (by rw [sumC_len]; kernel_rfl) ?_; simp only [Act.put, List.setIfInBounds_toArray, List.set_cons_succ, List.set_cons_zero]))
          refine wpQuiet_nil ?_
          refine wpAnyH_one (i := 6) (by kernel_rfl) rfl ?_
          intro K hK
          go_simp
          have hpair : Calls Tryd.prog 19 #[.agg (sumC x).toArray, .agg (sumC a).toArray] wr.drew fun e w' => e = .returned (sumV (pair x.1 a.1)) ∧ Below wr.drew.heap.size wr.drew w' := RPair_any x.1 a.1 x.2 a.2 wr.drew
          have Hpair := Lib.hid hpair
          clear hpair
          refine Hpair.out.mono ?_
          rintro e W1 ⟨rfl, hb1⟩
          have hB1 : Below wr.heap.size wr W1 := (Below.refl _ wr).drew.trans hb1
          refine hK _ _ (ext_of hB1) ?_
          clear hK K
          refine wpAnyH_done (by kernel_rfl) ?_ _
          have hpl := pair_length x.1 a.1
          have hX1 : Blk W1 w3.heap.size 32 (sumC x).toArray := HX.out.below hB1 HX.out.lt
          simp only [Exit.then]
          unfold sumV
          refine wpList_store_row rfl 32 (.tmp 6) (.tmp 56) rfl _ _ rfl rfl 32 _ hX1 (size32 _ (sumV_size hpl)) ((by simp [sumC, x.2, hpl])) (all_oneCell_toArray (oneB _)) ?_
          have hX2 : Blk (W1.setRow w3.heap.size ((pair x.1 a.1).map byteV).toArray) w3.heap.size 32 (sumC (pairS x a)).toArray := setRow_heap _ _ _ _ _ _ hX1
          have hB2 : Below w3.heap.size w3 (W1.setRow w3.heap.size ((pair x.1 a.1).map byteV).toArray) := Below.setRow (HB.out.trans (hB1.mono HB.out.size)) (Nat.le_refl _) _
          refine wpList_nil ?_
          have HX2 := Lib.hid hX2
          have HB2 := Lib.hid hB2
          clear hX2 hB2 hX1 hB1 hb1
          generalize (W1.setRow w3.heap.size ((pair x.1 a.1).map byteV).toArray) = W2 at *
          simp only [Act.put]
          go_wp2_with fail
          exact ⟨⟨k + 1, pairS x a, by go_num, by omega, Hck2.out, HX2.out, HB2.out⟩, by simp [intOf]; omega⟩
      · have hk' : k = ss.length := by omega
        have hnil : foldS (ss.drop k) x (p.drop k) = some x := by
          rw [List.drop_of_length_le (by omega), List.drop_of_length_le (by omega)]; rfl
        rw [hnil] at hck
        have hres2 : decide (x = rt) = res := by rw [← hck]; simp
        have hE := run_eql_sum x rt
        have hxr : wr.rangeAt w3.heap.size 0 (sumC x) := Blk.range hX
        have hrr : wr.rangeAt w.heap.size 0 (sumC rt) := Blk.range (HR1.out.below hb1 (by omega))
        have Hxr := Lib.hid hxr
        have Hrr := Lib.hid hrr
        have Hr := Lib.hid hres2
        have Hb1 := Lib.hid hb1
        clear hxr hrr hX hB hck hnil hres2 hb1 k3
        subst hk'
        go_wp2_with (first | (refine wpList_load_mid_g (by first | rfl | simp [Region.wanted, yielded]) 32 (.tmp 6) rfl w3.heap.size 0 rfl (sumC x) _ Hxr.out und32 rfl (by rw [sumC_len]; kernel_rfl) ?_) | (refine wpList_load_mid_g (by first | rfl | simp [Region.wanted, yielded]) 32 (.tmp 2) rfl w.heap.size 0 rfl (sumC rt) _ Hrr.out und32 rfl (by rw [sumC_len]; kernel_rfl) ?_))
        go_ret
        exact ⟨by rw [← Hr.out]; rfl, HB1.out.trans (Hb1.out.mono (by omega))⟩
end Go.Proofs.YtgblkaoioeceiaaDoor
