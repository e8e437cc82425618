/- The laws of chapter 16: the fixed examples. -/
import Derived.Test.YtfdhiilhjfbehaaDoorS22
namespace Go.Proofs.YtfdhiilhjfbehaaDoor
open Go.RowKit Go.Sort

theorem rd_nil1 (w : World) : Rd w 1 none 0 (([] : List UInt8).map byteV) := ⟨rfl, Nat.zero_le _, fun h => absurd h (by omega)⟩
theorem built28hn (h n : Int) : Tryd.prog.built 28 [(1, .int .i64 h), (2, .int .i64 n)] = some (secV ⟨z32, h, n⟩).toArray := by kernel_rfl
theorem Parse_nil (w : World) : Calls Tryd.prog 32 #[.slice none 0 0] w fun e w' => e = .returned (.tuple #[.agg (sgV 0 none 0 0 none 0 0).toArray, .int .i64 3]) ∧ Below w.heap.size w w' := by
  obtain ⟨i37, hi37, hz37, _, _⟩ := info_parts info37
  obtain ⟨d37, hd37, hrow37⟩ := und37
  go_enter Tryd.func32, Tryd.ntmps32
  have HZ := Lib.hid (Blk.new w 37 (sgV 0 none 0 0 none 0 0).toArray)
  go_wp2_with (first | (refine wpList_alloc0 rfl 37 rfl (sgV 0 none 0 0 none 0 0).toArray _ i37 hi37 hz37 rfl ?_; simp only [Act.put, List.setIfInBounds_toArray, List.set_cons_succ, List.set_cons_zero]) | (refine wpList_buildN rfl 37 _ rfl [] rfl _ built37z ?_) | (refine wpList_store_row rfl 37 (.tmp 2) (.tmp 22) rfl w.heap.size (sgV 0 none 0 0 none 0 0).toArray rfl rfl 37 _ HZ.out (size37 _ rfl) rfl (sg_one _ _ _ _ _ _ _) ?_))
  refine bodyPost_ret (results_row_tmp rfl _ _ w.heap.size 37 (sgV 0 none 0 0 none 0 0).toArray (0, 0) _ rfl (setRow_heap _ _ _ _ _ _ HZ.out) hd37 hrow37 (size37 _ rfl)) rfl ⟨rfl, Below.setRow ((Below.refl _ _).alloc (Nat.le_refl _) _) (Nat.le_refl _) _⟩

set_option maxRecDepth 100000 in
set_option maxHeartbeats 1000000 in
theorem sanity_any (w : World) (hg : Globs w) : Calls Tryd.prog 10 #[] w fun e w' => e = .returned (.bool true) ∧ Below w.heap.size w w' := by
  obtain ⟨i32, hi32, hz32, hs32, hy32⟩ := info_parts info32
  obtain ⟨i37, hi37, hz37, _, _⟩ := info_parts info37
  obtain ⟨i28, hi28, hz28, _, _⟩ := info_parts info28
  obtain ⟨i39, hi39, hz39, _, _⟩ := info_parts info39
  obtain ⟨d28, hd28, hrow28⟩ := und28
  obtain ⟨d37, hd37, hrow37⟩ := und37
  obtain ⟨d39, hd39, hrow39⟩ := und39
  go_enter Tryd.func10, Tryd.ntmps10
  have Hg := Lib.hid hg
  have HB := Lib.hid (Below.refl w.heap.size w)
  clear hg
  have p1 : pubS ⟨z32, 5, 0⟩ = (z32, 161) := by unfold pubS; rw [if_neg (by decide)]
  go_upto_region 2 with (refine wpList_buildN rfl 28 _ rfl [(1, .int .i64 5)] rfl _ (built28h _) ?_)
  refine (Public_any ⟨z32, 5, 0⟩ w Hg.out).mono ?_
  rintro e v1 ⟨rfl, hb_⟩
  replace Hg := Lib.hid (Hg.out.below hb_)
  replace HB := Lib.hid (HB.out.trans (hb_.mono HB.out.size))
  clear hb_
  rw [p1]
  obtain ⟨v2a, hv2a⟩ : ∃ v, v = (v1.alloc (.cells zero32 26)) := ⟨_, rfl⟩
  obtain ⟨X1, hX1⟩ : ∃ v, v = v1.heap.size := ⟨_, rfl⟩
  have hNX1 : Blk (v1.alloc (.cells zero32 26)) X1 26 zero32 := by
    have := Blk.new v1 26 zero32
    skip
    rw [hX1]; exact this
  rw [← hv2a] at hNX1
  have hbA : Below v1.heap.size v1 v2a := by
    rw [hv2a]; exact (Below.refl _ _).alloc (by simp) _
  have HNX1 := Lib.hid hNX1
  have hkX1 := (KeptIn.refl (fun b => b ≠ X1) v2a).setRow (g := X1) (fun h => h rfl) (sumC z32).toArray
  replace hNX1 : Blk (v2a.setRow X1 (sumC z32).toArray) X1 26 (sumC z32).toArray := setRow_heap _ _ _ _ _ _ HNX1.out
  obtain ⟨v2, hv2⟩ : ∃ v, v = (v2a.setRow X1 (sumC z32).toArray) := ⟨_, rfl⟩
  have hbB : Below v1.heap.size v1 v2 := by rw [hv2]; exact (Below.setRow hbA (show v1.heap.size ≤ X1 by omega) _)
  rw [← hv2] at hNX1
  have HBX1 := Lib.hid hNX1
  have Hv2a := Lib.hid hv2a
  have Hv2 := Lib.hid hv2
  have HEX1 := Lib.hid hX1
  clear hNX1 hkX1 hv2a hv2 hbA
  clear hX1
  go_upto_region 2 with (first | (refine wpList_alloc0 rfl 26 rfl zero32 _ i32 hi32 hz32 rfl ?_; simp only [Act.put, List.setIfInBounds_toArray, List.set_cons_succ, List.set_cons_zero]; try simp only [World.size_alloc]) | (rw [← Hv2a.out, ← HEX1.out]; refine wpList_store_row rfl 26 (.tmp 1) (.tmp 14) rfl X1 (sumC z32).toArray rfl rfl 26 _ HNX1.out (size32 _ (sum_size _)) ((zero32_size).trans (sum_size _).symm) (all_oneCell_toArray (oneB _)) ?_; rw [← Hv2.out]))
  replace Hg := Lib.hid (Hg.out.below hbB)
  replace HB := Lib.hid (HB.out.trans (hbB.mono HB.out.size))
  clear hbB
  clear HNX1 HEX1 Hv2a Hv2
  clear HBX1
  have q2 : signS ⟨z32, 1, 2⟩ [] = (sg0, sc0, 160) := by unfold signS; rw [if_pos (by decide), if_pos (by decide)]
  have q3 : signS ⟨z32, 1, 3⟩ [] = (sg0, sc0, 161) := by unfold signS; rw [if_neg (by decide)]
  clear p1
  go_upto_region 3 with (refine wpList_buildN rfl 28 _ rfl [(1, .int .i64 1), (2, .int .i64 2)] rfl _ (built28hn _ _) ?_)
  refine (Sign_any ⟨z32, 1, 2⟩ none 0 0 [] v2 Hg.out (rd_nil1 _) (by omega)).mono ?_
  rintro e v3 ⟨⟨C2, n2, c2, D2, m2, d2, rfl, _, _, _, _⟩, hb_⟩
  replace Hg := Lib.hid (Hg.out.below hb_)
  replace HB := Lib.hid (HB.out.trans (hb_.mono HB.out.size))
  clear hb_
  rw [q2]
  dsimp only [sg0]
  obtain ⟨v4a, hv4a⟩ : ∃ v, v = ((v3.alloc (.cells (sgV 0 none 0 0 none 0 0).toArray 37)).alloc (.cells (secV sc0).toArray 28)) := ⟨_, rfl⟩
  obtain ⟨X2, hX2⟩ : ∃ v, v = v3.heap.size := ⟨_, rfl⟩
  have hNX2 : Blk (v3.alloc (.cells (sgV 0 none 0 0 none 0 0).toArray 37)) X2 37 (sgV 0 none 0 0 none 0 0).toArray := by
    have := Blk.new v3 37 (sgV 0 none 0 0 none 0 0).toArray
    skip
    rw [hX2]; exact this
  replace hNX2 := hNX2.alloc (.cells (secV sc0).toArray 28)
  rw [← hv4a] at hNX2
  obtain ⟨Y2, hY2⟩ : ∃ v, v = v3.heap.size + 1 := ⟨_, rfl⟩
  have hNY2 : Blk ((v3.alloc (.cells (sgV 0 none 0 0 none 0 0).toArray 37)).alloc (.cells (secV sc0).toArray 28)) Y2 28 (secV sc0).toArray := by
    have := Blk.new (v3.alloc (.cells (sgV 0 none 0 0 none 0 0).toArray 37)) 28 (secV sc0).toArray
    rw [World.size_alloc] at this
    rw [hY2]; exact this
  rw [← hv4a] at hNY2
  have hbA : Below v3.heap.size v3 v4a := by
    rw [hv4a]; exact ((Below.refl _ _).alloc (by simp) _).alloc (by simp) _
  have HNX2 := Lib.hid hNX2
  have hkX2 := (KeptIn.refl (fun b => b ≠ X2) v4a).setRow (g := X2) (fun h => h rfl) (sgV 0 C2 n2 c2 D2 m2 d2).toArray
  replace hNY2 := hNY2.keptIn hkX2 (show Y2 ≠ X2 by omega)
  replace hNX2 : Blk (v4a.setRow X2 (sgV 0 C2 n2 c2 D2 m2 d2).toArray) X2 37 (sgV 0 C2 n2 c2 D2 m2 d2).toArray := setRow_heap _ _ _ _ _ _ HNX2.out
  have HNY2 := Lib.hid hNY2
  have hkY2 := (KeptIn.refl (fun b => b ≠ Y2) (v4a.setRow X2 (sgV 0 C2 n2 c2 D2 m2 d2).toArray)).setRow (g := Y2) (fun h => h rfl) (secV sc0).toArray
  replace hNX2 := hNX2.keptIn hkY2 (show X2 ≠ Y2 by omega)
  replace hNY2 : Blk ((v4a.setRow X2 (sgV 0 C2 n2 c2 D2 m2 d2).toArray).setRow Y2 (secV sc0).toArray) Y2 28 (secV sc0).toArray := setRow_heap _ _ _ _ _ _ HNY2.out
  obtain ⟨v4, hv4⟩ : ∃ v, v = ((v4a.setRow X2 (sgV 0 C2 n2 c2 D2 m2 d2).toArray).setRow Y2 (secV sc0).toArray) := ⟨_, rfl⟩
  have hbB : Below v3.heap.size v3 v4 := by rw [hv4]; exact (Below.setRow (Below.setRow hbA (show v3.heap.size ≤ X2 by omega) _) (show v3.heap.size ≤ Y2 by omega) _)
  rw [← hv4] at hNX2
  have HBX2 := Lib.hid hNX2
  rw [← hv4] at hNY2
  have HBY2 := Lib.hid hNY2
  have Hv4a := Lib.hid hv4a
  have Hv4 := Lib.hid hv4
  have HEX2 := Lib.hid hX2
  have HEY2 := Lib.hid hY2
  clear hNX2 hkX2 hNY2 hkY2 hv4a hv4 hbA
  clear hX2
  clear hY2
  go_upto_region 3 with (first | (refine wpList_alloc0 rfl 37 rfl (sgV 0 none 0 0 none 0 0).toArray _ i37 hi37 hz37 rfl ?_; simp only [Act.put, List.setIfInBounds_toArray, List.set_cons_succ, List.set_cons_zero]; try simp only [World.size_alloc]) | (refine wpList_alloc0 rfl 28 rfl (secV sc0).toArray _ i28 hi28 hz28 rfl ?_; simp only [Act.put, List.setIfInBounds_toArray, List.set_cons_succ, List.set_cons_zero]; try simp only [World.size_alloc]) | (rw [← Hv4a.out, ← HEY2.out, ← HEX2.out]; refine wpList_store_row rfl 37 (.tmp 3) (.tmp 19) rfl X2 (sgV 0 C2 n2 c2 D2 m2 d2).toArray rfl rfl 37 _ HNX2.out (size37 _ rfl) rfl (sg_one _ _ _ _ _ _ _) ?_) | (refine wpList_store_row rfl 28 (.tmp 4) (.tmp 20) rfl Y2 (secV sc0).toArray rfl rfl 28 _ HNY2.out (size28 _ (sec_size _)) ((sec_size _).trans (sec_size _).symm) (sec_one _) ?_; rw [← Hv4.out]))
  replace Hg := Lib.hid (Hg.out.below hbB)
  replace HB := Lib.hid (HB.out.trans (hbB.mono HB.out.size))
  clear hbB
  clear HNX2 HEX2 HNY2 HEY2 Hv4a Hv4
  clear HBX2 HBY2
  go_upto_region 4 with (refine wpList_buildN rfl 28 _ rfl [(1, .int .i64 1), (2, .int .i64 3)] rfl _ (built28hn _ _) ?_)
  refine (Sign_any ⟨z32, 1, 3⟩ none 0 0 [] v4 Hg.out (rd_nil1 _) (by omega)).mono ?_
  rintro e v5 ⟨⟨C3, n3, c3, D3, m3, d3, rfl, _, _, _, _⟩, hb_⟩
  replace Hg := Lib.hid (Hg.out.below hb_)
  replace HB := Lib.hid (HB.out.trans (hb_.mono HB.out.size))
  clear hb_
  rw [q3]
  dsimp only [sg0]
  obtain ⟨v6a, hv6a⟩ : ∃ v, v = ((v5.alloc (.cells (sgV 0 none 0 0 none 0 0).toArray 37)).alloc (.cells (secV sc0).toArray 28)) := ⟨_, rfl⟩
  obtain ⟨X3, hX3⟩ : ∃ v, v = v5.heap.size := ⟨_, rfl⟩
  have hNX3 : Blk (v5.alloc (.cells (sgV 0 none 0 0 none 0 0).toArray 37)) X3 37 (sgV 0 none 0 0 none 0 0).toArray := by
    have := Blk.new v5 37 (sgV 0 none 0 0 none 0 0).toArray
    skip
    rw [hX3]; exact this
  replace hNX3 := hNX3.alloc (.cells (secV sc0).toArray 28)
  rw [← hv6a] at hNX3
  obtain ⟨Y3, hY3⟩ : ∃ v, v = v5.heap.size + 1 := ⟨_, rfl⟩
  have hNY3 : Blk ((v5.alloc (.cells (sgV 0 none 0 0 none 0 0).toArray 37)).alloc (.cells (secV sc0).toArray 28)) Y3 28 (secV sc0).toArray := by
    have := Blk.new (v5.alloc (.cells (sgV 0 none 0 0 none 0 0).toArray 37)) 28 (secV sc0).toArray
    rw [World.size_alloc] at this
    rw [hY3]; exact this
  rw [← hv6a] at hNY3
  have hbA : Below v5.heap.size v5 v6a := by
    rw [hv6a]; exact ((Below.refl _ _).alloc (by simp) _).alloc (by simp) _
  have HNX3 := Lib.hid hNX3
  have hkX3 := (KeptIn.refl (fun b => b ≠ X3) v6a).setRow (g := X3) (fun h => h rfl) (sgV 0 C3 n3 c3 D3 m3 d3).toArray
  replace hNY3 := hNY3.keptIn hkX3 (show Y3 ≠ X3 by omega)
  replace hNX3 : Blk (v6a.setRow X3 (sgV 0 C3 n3 c3 D3 m3 d3).toArray) X3 37 (sgV 0 C3 n3 c3 D3 m3 d3).toArray := setRow_heap _ _ _ _ _ _ HNX3.out
  have HNY3 := Lib.hid hNY3
  have hkY3 := (KeptIn.refl (fun b => b ≠ Y3) (v6a.setRow X3 (sgV 0 C3 n3 c3 D3 m3 d3).toArray)).setRow (g := Y3) (fun h => h rfl) (secV sc0).toArray
  replace hNX3 := hNX3.keptIn hkY3 (show X3 ≠ Y3 by omega)
  replace hNY3 : Blk ((v6a.setRow X3 (sgV 0 C3 n3 c3 D3 m3 d3).toArray).setRow Y3 (secV sc0).toArray) Y3 28 (secV sc0).toArray := setRow_heap _ _ _ _ _ _ HNY3.out
  obtain ⟨v6, hv6⟩ : ∃ v, v = ((v6a.setRow X3 (sgV 0 C3 n3 c3 D3 m3 d3).toArray).setRow Y3 (secV sc0).toArray) := ⟨_, rfl⟩
  have hbB : Below v5.heap.size v5 v6 := by rw [hv6]; exact (Below.setRow (Below.setRow hbA (show v5.heap.size ≤ X3 by omega) _) (show v5.heap.size ≤ Y3 by omega) _)
  rw [← hv6] at hNX3
  have HBX3 := Lib.hid hNX3
  rw [← hv6] at hNY3
  have HBY3 := Lib.hid hNY3
  have Hv6a := Lib.hid hv6a
  have Hv6 := Lib.hid hv6
  have HEX3 := Lib.hid hX3
  have HEY3 := Lib.hid hY3
  clear hNX3 hkX3 hNY3 hkY3 hv6a hv6 hbA
  clear hX3
  clear hY3
  go_upto_region 4 with (first | (refine wpList_alloc0 rfl 37 rfl (sgV 0 none 0 0 none 0 0).toArray _ i37 hi37 hz37 rfl ?_; simp only [Act.put, List.setIfInBounds_toArray, List.set_cons_succ, List.set_cons_zero]; try simp only [World.size_alloc]) | (refine wpList_alloc0 rfl 28 rfl (secV sc0).toArray _ i28 hi28 hz28 rfl ?_; simp only [Act.put, List.setIfInBounds_toArray, List.set_cons_succ, List.set_cons_zero]; try simp only [World.size_alloc]) | (rw [← Hv6a.out, ← HEY3.out, ← HEX3.out]; refine wpList_store_row rfl 37 (.tmp 6) (.tmp 25) rfl X3 (sgV 0 C3 n3 c3 D3 m3 d3).toArray rfl rfl 37 _ HNX3.out (size37 _ rfl) rfl (sg_one _ _ _ _ _ _ _) ?_) | (refine wpList_store_row rfl 28 (.tmp 7) (.tmp 26) rfl Y3 (secV sc0).toArray rfl rfl 28 _ HNY3.out (size28 _ (sec_size _)) ((sec_size _).trans (sec_size _).symm) (sec_one _) ?_; rw [← Hv6.out]))
  replace Hg := Lib.hid (Hg.out.below hbB)
  replace HB := Lib.hid (HB.out.trans (hbB.mono HB.out.size))
  clear hbB
  clear HNX3 HEX3 HNY3 HEY3 Hv6a Hv6
  clear HBX3 HBY3
  go_upto_region 5 with fail
  refine (Parse_nil v6).mono ?_
  rintro e v7 ⟨rfl, hb_⟩
  replace Hg := Lib.hid (Hg.out.below hb_)
  replace HB := Lib.hid (HB.out.trans (hb_.mono HB.out.size))
  clear hb_
  obtain ⟨v8a, hv8a⟩ : ∃ v, v = (v7.alloc (.cells (sgV 0 none 0 0 none 0 0).toArray 37)) := ⟨_, rfl⟩
  obtain ⟨X9, hX9⟩ : ∃ v, v = v7.heap.size := ⟨_, rfl⟩
  have hNX9 : Blk (v7.alloc (.cells (sgV 0 none 0 0 none 0 0).toArray 37)) X9 37 (sgV 0 none 0 0 none 0 0).toArray := by
    have := Blk.new v7 37 (sgV 0 none 0 0 none 0 0).toArray
    skip
    rw [hX9]; exact this
  rw [← hv8a] at hNX9
  have hbA : Below v7.heap.size v7 v8a := by
    rw [hv8a]; exact (Below.refl _ _).alloc (by simp) _
  have HNX9 := Lib.hid hNX9
  have hkX9 := (KeptIn.refl (fun b => b ≠ X9) v8a).setRow (g := X9) (fun h => h rfl) (sgV 0 none 0 0 none 0 0).toArray
  replace hNX9 : Blk (v8a.setRow X9 (sgV 0 none 0 0 none 0 0).toArray) X9 37 (sgV 0 none 0 0 none 0 0).toArray := setRow_heap _ _ _ _ _ _ HNX9.out
  obtain ⟨v8, hv8⟩ : ∃ v, v = (v8a.setRow X9 (sgV 0 none 0 0 none 0 0).toArray) := ⟨_, rfl⟩
  have hbB : Below v7.heap.size v7 v8 := by rw [hv8]; exact (Below.setRow hbA (show v7.heap.size ≤ X9 by omega) _)
  rw [← hv8] at hNX9
  have HBX9 := Lib.hid hNX9
  have Hv8a := Lib.hid hv8a
  have Hv8 := Lib.hid hv8
  have HEX9 := Lib.hid hX9
  clear hNX9 hkX9 hv8a hv8 hbA
  clear hX9
  go_upto_region 5 with (first | (refine wpList_alloc0 rfl 37 rfl (sgV 0 none 0 0 none 0 0).toArray _ i37 hi37 hz37 rfl ?_; simp only [Act.put, List.setIfInBounds_toArray, List.set_cons_succ, List.set_cons_zero]; try simp only [World.size_alloc]) | (rw [← Hv8a.out, ← HEX9.out]; refine wpList_store_row rfl 37 (.tmp 9) (.tmp 30) rfl X9 (sgV 0 none 0 0 none 0 0).toArray rfl rfl 37 _ HNX9.out (size37 _ rfl) rfl (sg_one _ _ _ _ _ _ _) ?_; rw [← Hv8.out]))
  replace Hg := Lib.hid (Hg.out.below hbB)
  replace HB := Lib.hid (HB.out.trans (hbB.mono HB.out.size))
  clear hbB
  clear HNX9 HEX9 Hv8a Hv8
  clear HBX9
  go_wp2_with (first | (refine wpList_buildN_g (by first | rfl | simp [Region.wanted, yielded]) 26 _ rfl [] rfl _ built32z ?_) | (refine wpList_buildN_g (by first | rfl | simp [Region.wanted, yielded]) 37 _ rfl [] rfl _ built37z ?_))
  refine (Verify_any z32 none 0 0 [] 0 none none 0 0 0 0 [] [] v8 Hg.out (rd_nil1 _) (by omega) (rd_nil _) (rd_nil _) (Nat.le_refl _)).mono ?_
  rintro e v9 ⟨rfl, hb_⟩
  replace Hg := Lib.hid (Hg.out.below hb_)
  replace HB := Lib.hid (HB.out.trans (hb_.mono HB.out.size))
  clear hb_
  have hv : verS z32 [] ⟨0, [], []⟩ = false := by unfold verS; rw [if_neg (by decide)]
  rw [hv]
  go_wp2_with fail
  go_ret
  exact ⟨rfl, HB.out⟩
end Go.Proofs.YtfdhiilhjfbehaaDoor
