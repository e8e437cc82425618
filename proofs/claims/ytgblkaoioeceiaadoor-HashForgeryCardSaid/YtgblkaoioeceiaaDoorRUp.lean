/- The reference's up. -/
import Derived.Test.YtgblkaoioeceiaaDoorRLeaves
import Derived.Test.YtgblkaoioeceiaaDoorProof
namespace Go.Proofs.YtgblkaoioeceiaaDoor
open Go.RowKit Go.Sort

theorem upL_even (xs : List Sum32) (k : Nat) (h : xs.length = 2 * k) : upL xs = (List.range k).map (upAt xs) := by
  unfold upL
  rw [show (xs.length + 1) / 2 = k from by omega]
theorem upL_odd (xs : List Sum32) (k : Nat) (h : xs.length = 2 * k + 1) : upL xs = (List.range k).map (upAt xs) ++ [xs.getD (2 * k) z32] := by
  unfold upL
  rw [show (xs.length + 1) / 2 = k + 1 from by omega, List.range_succ, List.map_append, List.map_cons, List.map_nil]
  unfold upAt
  rw [if_neg (show ¬ 2 * k + 1 < xs.length by omega)]

set_option maxRecDepth 100000 in
set_option maxHeartbeats 2000000 in
theorem RUp_any (b off len cap : Nat) (xs : List Sum32) (w : World) (hr : Rd w 32 (some ⟨b, off, none⟩) len (xs.flatMap sumC)) (h1 : 0 < len) (hlen : len ≤ 1000000) :
    Calls Tryd.prog 31 #[.slice (some ⟨b, off, none⟩) len cap] w fun e w' => ∃ A' c', e = .returned (.slice A' ((len + 1) / 2) c') ∧ (len + 1) / 2 ≤ c' ∧ Rd w' 32 A' ((len + 1) / 2) ((upL xs).flatMap sumC) ∧ Below w.heap.size w w' ∧ ∀ b off, A' = some ⟨b, off, none⟩ → w.heap.size ≤ b := by
  obtain ⟨i0, hi0, hz0, hz1, hz2⟩ := info_parts info32
  have hxl := hr.lenf sumC_len (by omega)
  have hown := own_empty w 32 32
  have Hr := Lib.hid hr
  clear hr
  go_enter Tryd.func31, Tryd.ntmps31
  go_wp2_with fail
  go_loopw [3, 4] (fun v i wr => ∃ k m : Nat, m = 2 * k ∧ m ≤ len ∧ i = .int .i64 (m : Int) ∧ wr.ownsRow w.heap.size 32 32 v k (((List.range k).map (upAt xs)).flatMap sumC) ∧ Below w.heap.size w wr) (fun _ i _ => len - (intOf i).toNat)
  case atStart => exact ⟨0, 0, rfl, by omega, rfl, by simpa using hown, (Below.refl _ _).alloc (Nat.le_refl _) _⟩
  case round =>
    obtain ⟨k, m, hm, hml, rfl, hrow, hB⟩ := hrel
    have hsz := hB.size
    have hrW := Hr.out.below hB
    by_cases hlt : m + 1 < len
    · obtain ⟨M, hM⟩ : ∃ M, M = m + 1 := ⟨_, rfl⟩
      have hMl : M < len := by omega
      have hMi : (m : Int) + 1 = (M : Int) := by omega
      have hua : upAt xs k = pairS (xs.getD m z32) (xs.getD M z32) := by unfold upAt; rw [if_pos (by omega), hM, hm]
      have hx0 := hrW.range32 (k := m) (by omega)
      have hx1 := hrW.range32 (k := M) (by omega)
      generalize xs.getD m z32 = x0 at *
      generalize xs.getD M z32 = x1 at *
      have hp0 := x0.2
      have hp1 := x1.2
      have hpl := pair_length x0.1 x1.1
      have hx0' : ∀ w', Ext wr w' → w'.rangeAt b (off + m * 32) (sumC x0) := fun w' hw' j v hv => ((ext_below hw').cell (World.block_lt_of_cell? wr _ (hx0 j v hv))).trans (hx0 j v hv)
      have hx1' : ∀ w', Ext wr w' → w'.rangeAt b (off + M * 32) (sumC x1) := fun w' hw' j v hv => ((ext_below hw').cell (World.block_lt_of_cell? wr _ (hx1 j v hv))).trans (hx1 j v hv)
      have Hx0 := Lib.hid hx0'
      have Hx1 := Lib.hid hx1'
      have Hrow := Lib.hid hrow
      have HB := Lib.hid hB
      have Hm := Lib.hid hm
      have HM := Lib.hid hM
      have Hua := Lib.hid hua
      clear hx0 hx1 hx0' hx1' hrow hB hm hM hua hrW hown
      go_wp2_with fail
      refine wp_region_reads_tail 12 [0, 1, 2, 3, 4, 5, 6, 7, 8, 9] 2 (by kernel_rfl) (List.take_append_drop _ _) rfl (by kernel_rfl) (by kernel_rfl) (by kernel_rfl) (by decide) (by kernel_rfl) (by kernel_rfl) (fun _ _ d _ _ h => by cases d <;> exact h) (by kernel_rfl) (by kernel_rfl) rfl ?_
      simp only [List.take_succ_cons, List.take_zero, List.drop_succ_cons, List.drop_zero, pickOps, List.getElem?_cons_zero, List.getElem?_cons_succ]
      repeat (first | go_big_quiet_step (fail) | rw [hMi] | (refine wpQuiet_load_mid rfl 32 _ rfl b _ rfl (sumC x0) _ Hx0.out und32 rfl (by rw [sumC_len]; kernel_rfl) ?_; simp only [Act.put, List.setIfInBounds_toArray, List.set_cons_succ, List.set_cons_zero]) | (refine wpQuiet_load_mid rfl 32 _ rfl b _ rfl (sumC x1) _ Hx1.out und32 rfl (by rw [sumC_len]; kernel_rfl) ?_; simp only [Act.put, List.setIfInBounds_toArray, List.set_cons_succ, List.set_cons_zero]))
      refine wpQuiet_nil ?_
      refine wpAnyH_one (i := 10) (by kernel_rfl) rfl ?_
      intro K hK
      go_simp
      have hpair := RPair_any x0.1 x1.1 hp0 hp1 wr.drew
      have Hpair := Lib.hid hpair
      clear hpair
      unfold sumC
      refine Hpair.out.mono ?_
      rintro e W1 ⟨rfl, hb1⟩
      have hB1 : Below wr.heap.size wr W1 := (Below.refl _ wr).drew.trans hb1
      refine hK _ _ (ext_of hB1) ?_
      clear hK K
      refine wpAnyH_one (i := 11) (by kernel_rfl) rfl ?_
      intro K hK
      refine step_build1 rfl 27 32 (.tmp 23) rfl _ i0 _ 32 Tryd.underlying27 hi0 hz0 hz1 (by omega) (by omega) rfl (sumV_size hpl) ?_
      refine hK _ _ (ext_of (hB1.alloc hB1.size _)) ?_
      clear hK K
      refine wpAnyH_done (by kernel_rfl) ?_ _
      have hrow1 : ∀ o, (W1.alloc o).ownsRow w.heap.size 32 32 u3 k (((List.range k).map (upAt xs)).flatMap sumC) := fun o => (ownsRow_below Hrow.out hB1).alloc o
      have Hrow1 := Lib.hid hrow1
      have HB1 := Lib.hid (HB.out.trans (hB1.mono hsz))
      have hs1 := HB1.out.size
      clear hrow1 Hrow HB hb1
      simp only [Exit.then]
      refine wpList_append_own _ rfl (.tmp 13) (.tmp 24) 27 rfl w.heap.size 32 i0 (.agg zero32) 32 32 Tryd.underlying27 hi0 hz0 hz1 hz2 rfl (by decide) u3 k _ rfl (Hrow1.out _) ⟨W1.heap.size, 0, none⟩ 1 1 ((pair x0.1 x1.1).map byteV) rfl (by rw [List.length_map, hpl]) (cells_new _ _ _) (oneB _) (by have := Hm.out; unfold maxLen; omega) (by have := Hm.out; omega) (by simp; omega) ?_
      intro v' w2 hown' hgrow _
      have hB3 : Below w.heap.size w w2 := (HB1.out.alloc (by omega) _).grown hgrow (by simp; omega) (fun k' e' => ((Hrow1.out (.cells ((pair x0.1 x1.1).map byteV).toArray 32)).lt k' e').1)
      have Hown := Lib.hid hown'
      have HB3 := Lib.hid hB3
      clear hown' hB3 hgrow hB1
      simp only [Act.put, List.setIfInBounds_toArray, List.set_cons_succ, List.set_cons_zero]
      go_wp2_with fail
      refine ⟨⟨k + 1, m + 2, by have := Hm.out; omega, by omega, by go_num, ?_, HB3.out⟩, by simp [intOf]; omega⟩
      rw [List.range_succ, List.map_append, List.flatMap_append, List.map_cons, List.map_nil, List.flatMap_cons, List.flatMap_nil, List.append_nil, Hua.out]
      exact Hown.out
    · by_cases hpar : len = m
      · have hu := upL_even xs k (by omega)
        rw [← hu] at hrow
        have hmod : (len : Int) % 2 = 0 := by omega
        obtain ⟨Ao, co, rfl⟩ := ownsRow_slice hrow
        have hcc := ownsRow_cap hrow
        rw [show k = (len + 1) / 2 from by omega] at hrow hcc ⊢
        have Hrow := Lib.hid hrow
        have HB := Lib.hid hB
        clear hrow hB hrW hu hm hpar hown
        go_wp2_with fail
        go_ret
        exact ⟨Ao, co, rfl, hcc, Rd.of_own Hrow.out, HB.out, fun b off e => (Hrow.out.lt b (by rw [e]; rfl)).1⟩
      · obtain rfl : len = m + 1 := by omega
        have hu := upL_odd xs k (by omega)
        rw [← hm] at hu
        have hx0 := hrW.range32 (k := m) (by omega)
        generalize xs.getD m z32 = x0 at *
        have hp0 := x0.2
        have hmod : ((m : Int) + 1) % 2 = 1 := by omega
        have Hrow := Lib.hid hrow
        have HB := Lib.hid hB
        have Hm := Lib.hid hm
        have Hu := Lib.hid hu
        have Hx0 := Lib.hid hx0
        clear hrow hB hm hu hx0 hown hrW hpar
        go_wp2_with (first | (refine wpList_load_mid rfl 32 (.tmp 35) rfl b _ rfl (sumC x0) _ Hx0.out und32 rfl (by rw [sumC_len]; kernel_rfl) ?_) | (refine wpList_build1 rfl 27 32 (.tmp 36) rfl _ i0 _ 32 Tryd.underlying27 hi0 hz0 hz1 (by omega) (by omega) rfl (sumV_size hp0) ?_) | (at_builtin; refine wpList_append_own _ rfl (.tmp 30) (.tmp 37) 27 rfl w.heap.size 32 i0 (.agg zero32) 32 32 Tryd.underlying27 hi0 hz0 hz1 hz2 rfl (by decide) _ k _ rfl (Hrow.out.alloc _) ⟨wr.heap.size, 0, none⟩ 1 1 (x0.1.map byteV) rfl (by rw [List.length_map, hp0]) (cells_new _ _ _) (oneB _) (by have := Hm.out; unfold maxLen; omega) (by have := Hm.out; omega) (by simp; omega) ?_; intro v' w3 hown' hgrow _))
        have hB3 : Below w.heap.size w w3 := (HB.out.alloc (by omega) _).grown hgrow (by simp; omega) (fun k' e' => ((Hrow.out.alloc (.cells (x0.1.map byteV).toArray 32)).lt k' e').1)
        obtain ⟨Ao, co, rfl⟩ := ownsRow_slice hown'
        have hcc := ownsRow_cap hown'
        rw [show (m + 1 + 1) / 2 = k + 1 from by have := Hm.out; omega]
        go_ret
        refine ⟨Ao, co, rfl, hcc, ?_, hB3, fun b off e => (hown'.lt b (by rw [e]; rfl)).1⟩
        rw [Hu.out, List.flatMap_append, List.flatMap_cons, List.flatMap_nil, List.append_nil]
        exact Rd.of_own hown'
end Go.Proofs.YtgblkaoioeceiaaDoor
