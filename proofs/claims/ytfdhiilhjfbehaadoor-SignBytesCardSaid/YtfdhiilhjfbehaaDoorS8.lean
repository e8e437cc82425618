/- Package sign and its reference: the public key. -/
import Derived.Test.YtfdhiilhjfbehaaDoorS7
namespace Go.Proofs.YtfdhiilhjfbehaaDoor
open Go.RowKit Go.Sort

set_option maxRecDepth 100000 in
set_option maxHeartbeats 1000000 in
theorem Public_any (k : Sc) (w : World) (hg : Globs w) : Calls Tryd.prog 13 #[.agg (secV k).toArray] w fun e w' => e = .returned (.tuple #[.agg (sumC (pubS k).1).toArray, .int .i64 (pubS k).2]) ∧ Below w.heap.size w w' := by
  obtain ⟨d28, hd28, hrow28⟩ := und28
  obtain ⟨R, hR⟩ : ∃ R, R = pubS k := ⟨_, rfl⟩
  rw [← hR]
  have HR := Lib.hid hR
  clear hR
  go_enter Tryd.func13, Tryd.ntmps13
  go_upto_region 1 with fail
  obtain ⟨w1, hw1⟩ : ∃ w1, w1 = (w.alloc (.cells (secV k).toArray 28)).alloc (.cells zero32 26) := ⟨_, rfl⟩
  have hB1 : Below w.heap.size w w1 := by rw [hw1]; exact ((Below.refl _ _).alloc (Nat.le_refl _) _).alloc (by simp) _
  have hX1 : Blk w1 w.heap.size 28 (secV k).toArray := by rw [hw1]; exact (Blk.new _ _ _).alloc _
  have hZ1 : Blk w1 (w.heap.size + 1) 26 zero32 := by
    have := Blk.new (w.alloc (.cells (secV k).toArray 28)) 26 zero32
    rw [World.size_alloc] at this
    rw [hw1]; exact this
  simp only [zero32, List.replicate_succ, List.replicate_zero] at hw1
  rw [← hw1]
  clear hw1
  have Hg := Lib.hid hg
  have HX1 := Lib.hid hX1
  have HZ1 := Lib.hid hZ1
  have HB1 := Lib.hid hB1
  have Hrg := Lib.hid (Blk.range hX1)
  clear hB1 hX1 hZ1 hg
  go_upto_region 3 with (refine wpList_load_mid rfl 28 (.tmp 1) rfl w.heap.size 0 rfl (secV k) d28 Hrg.out hd28 hrow28 (by rw [secV_len]; kernel_rfl) ?_)
  refine (valid_any k w1).mono ?_
  rintro e w2 ⟨rfl, hb2⟩
  have HX2 := Lib.hid (HX1.out.below hb2 HX1.out.lt)
  have HZ2 := Lib.hid (HZ1.out.below hb2 HZ1.out.lt)
  have HB2 := Lib.hid (HB1.out.trans (hb2.mono HB1.out.size))
  have hsz2 := HB2.out.size
  clear hb2 HX1 HZ1 HB1 Hrg
  by_cases hv : validS k = true
  rotate_left
  · have hv' : validS k = false := by simpa using hv
    have hr : R = (z32, 161) := by rw [HR.out]; unfold pubS; rw [if_neg hv]
    have Hr := Lib.hid hr
    rw [hv']
    clear hv hv' hr
    go_wp2_with (first | (refine wpList_buildN rfl 26 _ rfl [] rfl _ built32z ?_) | (refine wpList_store_row rfl 26 (.tmp 2) (.tmp 7) rfl (w.heap.size + 1) (sumC z32).toArray rfl rfl 26 _ HZ2.out (size32 _ (sum_size _)) ((zero32_size).trans (sum_size _).symm) (all_oneCell_toArray (oneB _)) ?_))
    refine bodyPost_ret (results_row_tmp rfl _ _ (w.heap.size + 1) 26 (sumC z32).toArray (0, 0) _ rfl (setRow_heap _ _ _ _ _ _ HZ2.out) und32 rfl (size32 _ (sum_size _))) rfl ⟨by rw [Hr.out]; rfl, Below.setRow HB2.out (by omega) _⟩
  obtain ⟨H, N, e1, h2, e3, h4, h5, e6⟩ := valid_of hv
  have hr : R = (root (keysS k.s (2 ^ H)), 0) := by rw [HR.out]; unfold pubS; rw [if_pos hv, e6]
  have Hr := Lib.hid hr
  have Hrg := Lib.hid (Blk.range HX2.out)
  have hkl : ∀ c ∈ keysS k.s (2 ^ H), c.length ≤ 8796093021000 := fun c hc => by
    unfold keysS at hc
    obtain ⟨j, _, rfl⟩ := List.mem_map.1 hc
    show (chunkK _ _ 67).length ≤ _
    rw [chunkK_len]; omega
  have Hkl := Lib.hid (fun c hc => Nat.le_trans (hkl c hc) (show 8796093021000 ≤ 8796093022000 by omega))
  rw [hv]
  clear hv hr hkl HR
  go_wp2_with (refine wpList_load_mid rfl 28 (.tmp 1) rfl w.heap.size 0 rfl (secV k) d28 Hrg.out hd28 hrow28 (by rw [secV_len]; kernel_rfl) ?_)
  refine (keys_any k H e1 h2 w2 (Hg.out.below HB2.out)).mono ?_
  rintro e w3 ⟨⟨A, vs, rfl, hr, hins⟩, hb3⟩
  have hls : Lst w3 A (2 ^ H) (keysS k.s (2 ^ H)) := ⟨vs, hr, keysS_len _ _, fun j v c hv hc => ⟨(hins.2 j v c hv hc).1.rd, (hins.2 j v c hv hc).2⟩⟩
  have Hls := Lib.hid hls
  have HZ3 := Lib.hid (HZ2.out.below hb3 HZ2.out.lt)
  have HB3 := Lib.hid (HB2.out.trans (hb3.mono hsz2))
  have hsz3 := HB3.out.size
  clear hls hr hins hb3 HZ2
  go_wp2_with fail
  refine (Root_any A (2 ^ H) _ (keysS k.s (2 ^ H)) w3 (Hg.out.below HB3.out) Hls.out (by omega) Hkl.out).mono ?_
  rintro e w4 ⟨rfl, hb4⟩
  have HZ4 := Lib.hid (HZ3.out.below hb4 HZ3.out.lt)
  have HB4 := Lib.hid (HB3.out.trans (hb4.mono hsz3))
  clear hb4 HZ3 HB3
  go_wp2_with (refine wpList_store_row rfl 26 (.tmp 2) (.tmp 10) rfl (w.heap.size + 1) (sumC (root (keysS k.s (2 ^ H)))).toArray rfl rfl 26 _ HZ4.out (size32 _ (sum_size _)) ((zero32_size).trans (sum_size _).symm) (all_oneCell_toArray (oneB _)) ?_)
  refine bodyPost_ret (results_row_tmp rfl _ _ (w.heap.size + 1) 26 (sumC (root (keysS k.s (2 ^ H)))).toArray (0, 0) _ rfl (setRow_heap _ _ _ _ _ _ HZ4.out) und32 rfl (size32 _ (sum_size _))) rfl ⟨by rw [Hr.out]; rfl, Below.setRow HB4.out (by omega) _⟩
set_option maxRecDepth 100000 in
set_option maxHeartbeats 1000000 in
theorem RPublic_any (k : Sc) (w : World) : Calls Tryd.prog 14 #[.agg (secV k).toArray] w fun e w' => e = .returned (.tuple #[.agg (sumC (pubS k).1).toArray, .int .i64 (pubS k).2]) ∧ Below w.heap.size w w' := by
  obtain ⟨d28, hd28, hrow28⟩ := und28
  obtain ⟨R, hR⟩ : ∃ R, R = pubS k := ⟨_, rfl⟩
  rw [← hR]
  have HR := Lib.hid hR
  clear hR
  go_enter Tryd.func14, Tryd.ntmps14
  go_upto_region 1 with fail
  obtain ⟨w1, hw1⟩ : ∃ w1, w1 = (w.alloc (.cells (secV k).toArray 28)).alloc (.cells zero32 26) := ⟨_, rfl⟩
  have hB1 : Below w.heap.size w w1 := by rw [hw1]; exact ((Below.refl _ _).alloc (Nat.le_refl _) _).alloc (by simp) _
  have hX1 : Blk w1 w.heap.size 28 (secV k).toArray := by rw [hw1]; exact (Blk.new _ _ _).alloc _
  have hZ1 : Blk w1 (w.heap.size + 1) 26 zero32 := by
    have := Blk.new (w.alloc (.cells (secV k).toArray 28)) 26 zero32
    rw [World.size_alloc] at this
    rw [hw1]; exact this
  simp only [zero32, List.replicate_succ, List.replicate_zero] at hw1
  rw [← hw1]
  clear hw1

  have HX1 := Lib.hid hX1
  have HZ1 := Lib.hid hZ1
  have HB1 := Lib.hid hB1
  have Hrg := Lib.hid (Blk.range hX1)
  clear hB1 hX1 hZ1
  go_upto_region 4 with (refine wpList_load_mid rfl 28 (.tmp 1) rfl w.heap.size 0 rfl (secV k) d28 Hrg.out hd28 hrow28 (by rw [secV_len]; kernel_rfl) ?_)
  refine (RValid_any k w1).mono ?_
  rintro e w2 ⟨rfl, hb2⟩
  have HX2 := Lib.hid (HX1.out.below hb2 HX1.out.lt)
  have HZ2 := Lib.hid (HZ1.out.below hb2 HZ1.out.lt)
  have HB2 := Lib.hid (HB1.out.trans (hb2.mono HB1.out.size))
  have hsz2 := HB2.out.size
  clear hb2 HX1 HZ1 HB1 Hrg
  by_cases hv : validS k = true
  rotate_left
  · have hv' : validS k = false := by simpa using hv
    have hr : R = (z32, 161) := by rw [HR.out]; unfold pubS; rw [if_neg hv]
    have Hr := Lib.hid hr
    rw [hv']
    clear hv hv' hr
    go_wp2_with (first | (refine wpList_buildN rfl 26 _ rfl [] rfl _ built32z ?_) | (refine wpList_store_row rfl 26 (.tmp 2) (.tmp 9) rfl (w.heap.size + 1) (sumC z32).toArray rfl rfl 26 _ HZ2.out (size32 _ (sum_size _)) ((zero32_size).trans (sum_size _).symm) (all_oneCell_toArray (oneB _)) ?_))
    refine bodyPost_ret (results_row_tmp rfl _ _ (w.heap.size + 1) 26 (sumC z32).toArray (0, 0) _ rfl (setRow_heap _ _ _ _ _ _ HZ2.out) und32 rfl (size32 _ (sum_size _))) rfl ⟨by rw [Hr.out]; rfl, Below.setRow HB2.out (by omega) _⟩
  obtain ⟨H, N, e1, h2, e3, h4, h5, e6⟩ := valid_of hv
  have hr : R = (root (keysS k.s (2 ^ H)), 0) := by rw [HR.out]; unfold pubS; rw [if_pos hv, e6]
  have Hr := Lib.hid hr
  have Hrg := Lib.hid (Blk.range HX2.out)
  have hkl : ∀ c ∈ keysS k.s (2 ^ H), c.length ≤ 8796093021000 := fun c hc => by
    unfold keysS at hc
    obtain ⟨j, _, rfl⟩ := List.mem_map.1 hc
    show (chunkK _ _ 67).length ≤ _
    rw [chunkK_len]; omega
  have Hkl := Lib.hid (fun c hc => Nat.le_trans (hkl c hc) (show 8796093021000 ≤ 8796093021000 by omega))
  rw [hv]
  clear hv hr hkl HR
  go_wp2_with (refine wpList_load_mid rfl 28 (.tmp 1) rfl w.heap.size 0 rfl (secV k) d28 Hrg.out hd28 hrow28 (by rw [secV_len]; kernel_rfl) ?_)
  refine (Keys_any k H e1 h2 w2).mono ?_
  rintro e w3 ⟨⟨v, vs, rfl, ha, hins⟩, hb3⟩
  obtain ⟨A, cA, rfl, hcA, hr⟩ := ha.rd
  have hls : Lst w3 A (2 ^ H) (keysS k.s (2 ^ H)) := ⟨vs, hr, keysS_len _ _, fun j v c hv hc => ⟨(hins.2 j v c hv hc).1.rd, (hins.2 j v c hv hc).2⟩⟩
  have Hls := Lib.hid hls
  have HZ3 := Lib.hid (HZ2.out.below hb3 HZ2.out.lt)
  have HB3 := Lib.hid (HB2.out.trans (hb3.mono hsz2))
  have hsz3 := HB3.out.size
  clear hls hr hins hb3 HZ2 ha
  go_wp2_with fail
  refine (RRoot_any A (2 ^ H) _ (keysS k.s (2 ^ H)) w3 Hls.out (by omega) Hkl.out).mono ?_
  rintro e w4 ⟨rfl, hb4⟩
  have HZ4 := Lib.hid (HZ3.out.below hb4 HZ3.out.lt)
  have HB4 := Lib.hid (HB3.out.trans (hb4.mono hsz3))
  clear hb4 HZ3 HB3
  go_wp2_with (refine wpList_store_row rfl 26 (.tmp 2) (.tmp 12) rfl (w.heap.size + 1) (sumC (root (keysS k.s (2 ^ H)))).toArray rfl rfl 26 _ HZ4.out (size32 _ (sum_size _)) ((zero32_size).trans (sum_size _).symm) (all_oneCell_toArray (oneB _)) ?_)
  refine bodyPost_ret (results_row_tmp rfl _ _ (w.heap.size + 1) 26 (sumC (root (keysS k.s (2 ^ H)))).toArray (0, 0) _ rfl (setRow_heap _ _ _ _ _ _ HZ4.out) und32 rfl (size32 _ (sum_size _))) rfl ⟨by rw [Hr.out]; rfl, Below.setRow HB4.out (by omega) _⟩
end Go.Proofs.YtfdhiilhjfbehaaDoor
