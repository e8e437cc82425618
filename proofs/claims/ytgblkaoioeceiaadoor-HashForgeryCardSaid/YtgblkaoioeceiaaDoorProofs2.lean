/- The law HashProofs. -/
import Derived.Test.YtgblkaoioeceiaaDoorChunks
namespace Go.Proofs.YtgblkaoioeceiaaDoor
open Go.RowKit Go.Sort

theorem upL_getD (xs : List Sum32) (k : Nat) (h : k < (xs.length + 1) / 2) : (upL xs).getD k z32 = upAt xs k := by
  unfold upL
  rw [List.getD_eq_getElem?_getD, List.getElem?_map, List.getElem?_range h]
  rfl
theorem chk_proof : ∀ (m : Nat) (xs : List Sum32) (i : Nat), xs.length ≤ m → i < xs.length → chkL xs.length i (xs.getD i z32) (proofL xs i) = some (rootL xs)
  | 0, xs, i, h, hi => by omega
  | m + 1, xs, i, h, hi => by
    by_cases h1 : xs.length ≤ 1
    · obtain rfl : i = 0 := by omega
      rw [proofL_one xs 0 h1, chkL_one _ _ _ _ h1, if_pos rfl, rootL_one xs h1]
    · have hx := xor1_cases i
      have ih := chk_proof m (upL xs) (i / 2) (by rw [upL_length]; omega) (by rw [upL_length]; omega)
      rw [upL_length, upL_getD xs (i / 2) (by omega)] at ih
      rw [rootL_up xs (by omega), ← ih, proofL_up xs i (by omega)]
      by_cases hk : i ^^^ 1 < xs.length
      · rw [if_pos hk, List.cons_append, List.nil_append, chkL_cons _ _ _ _ _ (by omega) (by omega)]
        congr 1
        have hu : upAt xs (i / 2) = pairS (xs.getD (2 * (i / 2)) z32) (xs.getD (2 * (i / 2) + 1) z32) := by
          unfold upAt
          rw [if_pos (by split at hx <;> omega)]
        rw [hu]
        by_cases ho : i % 2 = 1
        · rw [if_neg (by omega)] at hx
          rw [if_pos ho, hx, show 2 * (i / 2) = i - 1 from by omega, show i - 1 + 1 = i from by omega]
        · rw [if_pos (by omega)] at hx
          rw [if_neg ho, hx, show 2 * (i / 2) = i from by omega]
      · rw [if_neg hk, List.nil_append, chkL_skip _ _ _ _ (by omega) (by omega)]
        congr 1
        unfold upAt
        split at hx
        · rw [if_neg (by omega), show 2 * (i / 2) = i from by omega]
        · omega
theorem proofL_length : ∀ (k : Nat) (xs : List Sum32) (i : Nat), xs.length ≤ 2 ^ k → (proofL xs i).length ≤ k
  | 0, xs, i, h => by rw [proofL_one xs i (by simpa using h)]; simp
  | k + 1, xs, i, h => by
    by_cases h1 : xs.length ≤ 1
    · rw [proofL_one xs i h1]; simp
    · rw [proofL_up xs i (by omega), List.length_append]
      have := proofL_length k (upL xs) (i / 2) (by rw [upL_length]; rw [Nat.pow_succ] at h; omega)
      split <;> simp <;> omega

set_option maxRecDepth 100000 in
set_option maxHeartbeats 1000000 in
theorem Proofs_any (A : Option Addr) (len cap : Nat) (cs : List (List UInt8)) (w : World) (hg : Globs w) (hr : Lst w A len cs) (_hcap : len ≤ cap) :
    Calls Tryd.prog 6 #[.slice A len cap] w fun e w' => e = .returned (.bool true) ∧ Below w.heap.size w w' := by
  have H1 := Lib.hid (Sanity_any w hg)
  have Hg := Lib.hid hg
  have Hr := Lib.hid hr
  clear hg hr
  go_enter Tryd.func6, Tryd.ntmps6
  go_wp2_with fail
  refine H1.out.mono ?_
  rintro e w1 ⟨rfl, hb1⟩
  have H2 := Lib.hid (Chunks_any A len cap 9 cs w1 (Hr.out.below hb1) (by omega) (by omega))
  have Hg1 := Lib.hid (Hg.out.below hb1)
  have Hb1 := Lib.hid hb1
  clear hb1
  go_wp2_with fail
  refine H2.out.mono ?_
  rintro e w2 ⟨A2, n, c, rfl, hnc, hL, hb2⟩
  have hnl := hL.len
  have hcl := chunksL_len cs 9 (by omega)
  have hsm := chunksL_small cs 9
  have hcs : ∀ c ∈ chunksL cs 9, c.length ≤ 8796093022000 := fun c hc => by have := hsm c hc; omega
  have Hg2 := Lib.hid (Hg1.out.below hb2)
  have HB2 := Lib.hid (Hb1.out.trans (hb2.mono Hb1.out.size))
  clear hsm hb2
  generalize chunksL cs 9 = ds at *
  have H3 := Lib.hid (Root_any A2 n c ds w2 Hg2.out hL (by omega) hcs)
  have hroot : root ds = rootL (ds.map leafS) := by
    match ds, hnl, hcl with
    | c :: ds, _, _ => rfl
  have Hroot := Lib.hid hroot
  have HL := Lib.hid hL
  have Hcs := Lib.hid hcs
  clear hroot hL hcs
  go_wp2_with fail
  refine H3.out.mono ?_
  rintro e w3 ⟨rfl, hb3⟩
  unfold sumV
  have hrl : (root ds).1.length = 32 := (root ds).2
  go_wp2_with (refine wpList_store_row rfl 32 (.tmp 5) (.tmp 13) rfl w3.heap.size _ rfl rfl 32 zero32 (heap_alloc_new _ _) (size32 _ (sumV_size hrl)) ((zero32_size).trans (sumV_size hrl).symm) (all_oneCell_toArray (oneB _)) ?_; simp only [Act.put])
  have hX4 : Blk ((w3.alloc (.cells zero32 32)).setRow w3.heap.size ((root ds).1.map byteV).toArray) w3.heap.size 32 (sumC (root ds)).toArray := setRow_heap _ _ _ _ _ _ (heap_alloc_new _ _)
  have hB4 : Below w3.heap.size w3 ((w3.alloc (.cells zero32 32)).setRow w3.heap.size ((root ds).1.map byteV).toArray) := Below.setRow ((Below.refl _ _).alloc (Nat.le_refl _) _) (Nat.le_refl _) _
  obtain ⟨w4, hw4⟩ : ∃ w4, w4 = (w3.alloc (.cells zero32 32)).setRow w3.heap.size ((root ds).1.map byteV).toArray := ⟨_, rfl⟩
  rw [← hw4] at hX4 hB4
  simp only [zero32, List.replicate_succ, List.replicate_zero] at hw4
  rw [← hw4]
  have hb24 : Below w2.heap.size w2 w4 := hb3.trans (hB4.mono hb3.size)
  have HL4 := Lib.hid (HL.out.below hb24)
  have Hg4 := Lib.hid (Hg2.out.below hb24)
  have HB4 := Lib.hid (HB2.out.trans (hb24.mono HB2.out.size))
  have HX4 := Lib.hid hX4
  have hx4 := hX4.lt
  clear hw4 hX4 hB4 hb24 hb3 hrl
  rw [Hroot.out] at HX4
  go_wp2_with fail
  go_loopw [6, 7, 8] (fun t _ _ wr => ∃ i : Nat, i ≤ n ∧ t = .int .i64 i ∧ Below w4.heap.size w4 wr) (fun t _ _ _ => n - (intOf t).toNat)
  case atStart => exact ⟨0, by omega, rfl, Below.refl _ _⟩
  case round =>
    obtain ⟨i, hi, rfl, hB⟩ := hrel
    by_cases hlt : i < n
    · have hP := Proof_any A2 n c i ds wr (Hg4.out.below hB) (HL4.out.below hB) (by omega) Hcs.out hlt
      have HP := Lib.hid hP
      have HB := Lib.hid hB
      clear hP hB
      go_wp2_with fail
      refine HP.out.mono ?_
      rintro e w5 ⟨A5, n5, c5, rfl, hc5, hr5, hb5⟩
      have HB5 := Lib.hid (HB.out.trans (hb5.mono HB.out.size))
      clear hb5
      have hn5 : n5 ≤ 4 := by
        have h1 := hr5.lenf sumC_len (by omega)
        have h2 := proofL_length 4 (ds.map leafS) i (by rw [List.length_map]; omega)
        omega
      obtain ⟨b, off, v, c0, rfl, hx, cc, hrd, hvc⟩ := (HL4.out.below HB5.out).at_ hlt
      have hvn := hrd.len1
      have hc0 := Hcs.out c0 (List.mem_of_getElem? hx)
      have hchk : chkL n i (leafS c0) (proofL (ds.map leafS) i) = some (rootL (ds.map leafS)) := by
        have := chk_proof _ (ds.map leafS) i (Nat.le_refl _) (by rw [List.length_map]; omega)
        rw [List.length_map, hnl, List.getD_eq_getElem?_getD, List.getElem?_map, hx] at this
        exact this
      have hg5 := Hg4.out.below HB5.out
      have hxr := Blk.range (HX4.out.below HB5.out hx4)
      generalize rootL (ds.map leafS) = rt at *
      have k1 : ∀ d os, Calls Tryd.prog 23 #[.agg (sumC rt).toArray, .int .i64 (n : Int), .int .i64 (i : Int), .slice v.a v.n v.c, .slice A5 n5 c5] (grow (redrawn w5 d) os) fun e w'' => e = .returned (.bool true) ∧ ∃ p : Regrown, w'' = grow (redrawn w5 p.d) p.os := fun d os => by
        have := Check_any rt n i v.a A5 v.n v.c n5 c5 c0 (proofL (ds.map leafS) i) hlt (by omega) _ (hg5.below (below_regrown w5 d os)) (hrd.below (below_regrown w5 d os)) (by omega) (hr5.below (below_regrown w5 d os)) hc5
        rw [hchk, decide_eq_true rfl] at this
        exact Calls.regrown_of this
      have hx' : ∀ w', (∃ p : Regrown, w' = grow (redrawn w5 p.d) p.os) → w'.rangeAt w3.heap.size 0 (sumC rt) := fun w' hw' j v hv => ((ext_below hw').cell (World.block_lt_of_cell? w5 _ (hxr j v hv))).trans (hxr j v hv)
      have Hx' := Lib.hid hx'
      have kc := cell_regrown cc
      have hd1 : decide ((4 : Int) < (n5 : Int)) = false := decide_eq_false (by omega)
      have hd2 : decide (4 < n5) = false := decide_eq_false (by omega)
      clear hx' hxr hchk hrd cc hr5 hg5 hx
      go_wp2_with fail
      refine wp_region_quiet_below (by kernel_rfl) (by kernel_rfl) ?_
      repeat (first | go_big_quiet_step (with_reducible exact k1 _ _) | (refine wpQuiet_load_mid_g (by first | rfl | simp [Region.wanted, yielded]) 32 (.tmp 5) rfl w3.heap.size 0 rfl (sumC rt) _ Hx'.out und32 rfl (by rw [sumC_len]; kernel_rfl) ?_; simp only [Act.put, List.setIfInBounds_toArray, List.set_cons_succ, List.set_cons_zero]))
      refine wpQuiet_nil ?_
      intro wz hwz
      have Hbz := Lib.hid (HB5.out.trans ((ext_below hwz).mono HB5.out.size))
      clear hwz k1 kc hd1 hd2
      go_wp2
      exact ⟨⟨i + 1, by omega, by go_num, Hbz.out⟩, by simp [intOf]; omega⟩
    · have Hz := Lib.hid (HB4.out.trans (hB.mono HB4.out.size))
      clear hB
      go_wp2
      go_ret
      exact ⟨rfl, Hz.out⟩
end Go.Proofs.YtgblkaoioeceiaaDoor
