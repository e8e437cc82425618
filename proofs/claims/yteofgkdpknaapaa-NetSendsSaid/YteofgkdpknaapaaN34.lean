/- NetSends: the walk. -/
import Derived.Test.YteofgkdpknaapaaN33
namespace Go.Proofs.Yteofgkdpknaapaa
open Go.RowKit Go.Sort

set_option maxRecDepth 100000 in
set_option maxHeartbeats 4000000 in
theorem NetSends_any (A : Option Addr) (n c : Nat) (xs : List Rw) (B : Option Addr) (m d : Nat) (ys : List Rw) (t : UInt8) (w : World) (hx : RawsAt w A n xs) (hy : RawsAt w B m ys) :
    Calls Try.prog 9 #[.agg #[.slice A n c, .slice B m d], .int .u8 (t.toNat : Int)] w fun e w' => e = .returned (.bool true) ∧ Below w.heap.size w w' := by
  obtain ⟨i39, hi39, hz39, hs39, hy39⟩ := info_parts info39
  obtain ⟨i30, hi30, hz30, _, _⟩ := info_parts info30
  obtain ⟨i0, hi0, hz0, hz1, hz2⟩ := info_parts info5
  obtain ⟨d39, hd39, hrow39⟩ := und39
  obtain ⟨d30, hd30, hrow30⟩ := und30
  obtain ⟨T, hT⟩ : ∃ q, q = t.toNat % 8 := ⟨_, rfl⟩
  have hT8 : T < 8 := by omega
  have htr : (t.toNat : Int) % 8 = (T : Int) := by rw [hT]; omega
  obtain ⟨w1, hw1⟩ : ∃ q, q = w.alloc (.cells #[.slice A n c, .slice B m d] 23) := ⟨_, rfl⟩
  have hb1 : Below w.heap.size w w1 := by rw [hw1]; exact (Below.refl _ _).alloc (Nat.le_refl _) _
  have HW := Lib.hid (show Blk w1 w.heap.size 23 #[.slice A n c, .slice B m d] by rw [hw1]; exact Blk.new _ _ _)
  have HW1 := Lib.hid hw1
  have HB := Lib.hid hb1
  have Hx := Lib.hid (hx.below hb1)
  have Hy := Lib.hid (hy.below hb1)
  clear hw1 hb1 hx hy hT
  go_enter Try.func9, Try.ntmps9
  go_upto_region 1 with fail
  rw [← HW1.out]
  go_upto_region 2 with fail
  refine (sanity_any w1).mono ?_
  rintro e v1 ⟨rfl, hb_⟩
  replace HB := Lib.hid (HB.out.trans (hb_.mono HB.out.size))
  replace HW := Lib.hid (HW.out.below hb_ HW.out.lt)
  replace Hx := Lib.hid (Hx.out.below hb_)
  replace Hy := Lib.hid (Hy.out.below hb_)
  clear hb_
  have c0 : v1.cell? ⟨w.heap.size, 0, none⟩ = some (.slice A n c) := (HW.out.cell 0).trans rfl
  go_upto_region 3 with fail
  refine (MadeNet0_any A n c xs v1 Hx.out).mono ?_
  rintro e v2 ⟨⟨A6, N6, c6, rfl, hc6, hN6, hp_⟩, hb_⟩
  replace HB := Lib.hid (HB.out.trans (hb_.mono HB.out.size))
  replace HW := Lib.hid (HW.out.below hb_ HW.out.lt)
  replace Hx := Lib.hid (Hx.out.below hb_)
  replace Hy := Lib.hid (Hy.out.below hb_)
  clear hb_
  clear c0
  obtain ⟨P, hP⟩ : ∃ q, q = (xs.take 64).map madeP := ⟨_, rfl⟩
  rw [← hP] at hp_
  have HPok := Lib.hid (show ∀ x ∈ P, okP x from fun x hx => (made_ok xs 64 x (hP ▸ hx)).1)
  have Hn := Lib.hid hp_
  clear hp_ hP
  clear Hx
  go_upto_region 3 with (first | (refine wpList_alloc0 rfl 30 rfl #[.slice none 0 0] _ i30 hi30 hz30 rfl ?_; simp only [Act.put, List.setIfInBounds_toArray, List.set_cons_succ, List.set_cons_zero]; try simp only [World.size_alloc]) | (refine wpList_store_row rfl 30 (.tmp 6) (.tmp 16) rfl v2.heap.size #[.slice A6 N6 c6] rfl rfl 30 _ (Blk.new v2 _ _) (size30 _ rfl) rfl (net_one _ _ _) ?_; rw [alloc_setRow]))
  obtain ⟨X6, hX6⟩ : ∃ q, q = v2.heap.size := ⟨_, rfl⟩
  obtain ⟨v3, hv3⟩ : ∃ q, q = v2.alloc (.cells #[.slice A6 N6 c6] 30) := ⟨_, rfl⟩
  have hb_ : Below v2.heap.size v2 v3 := by rw [hv3]; exact (Below.refl _ _).alloc (Nat.le_refl _) _
  have HBX6 := Lib.hid (show Blk v3 X6 30 #[.slice A6 N6 c6] by rw [hv3, hX6]; exact Blk.new _ _ _)
  have hlX6 : w.heap.size ≤ X6 := by have := HB.out.size; omega
  rw [← hv3, ← hX6]
  replace HB := Lib.hid (HB.out.trans (hb_.mono HB.out.size))
  replace HW := Lib.hid (HW.out.below hb_ HW.out.lt)
  replace Hy := Lib.hid (Hy.out.below hb_)
  replace Hn := Lib.hid (Hn.out.below hb_)
  clear hb_ hv3 hX6
  obtain ⟨Q, hQ⟩ : ∃ q, q = (ys.take 64).map madeP := ⟨_, rfl⟩
  have HQ := Lib.hid hQ
  have HQok := Lib.hid (show ∀ x ∈ Q, okP x from fun x hx => (made_ok ys 64 x (hQ ▸ hx)).1)
  have hQl : Q.length ≤ 64 := by rw [hQ, List.length_map, List.length_take]; omega
  clear hQ
  go_upto_region 5 with fail
  obtain ⟨bM, hbM⟩ : ∃ q, q = v3.heap.size := ⟨_, rfl⟩
  obtain ⟨v4, hv4⟩ : ∃ q, q = v3.alloc (.cells #[] 39) := ⟨_, rfl⟩
  have HbM := Lib.hid (show Below v3.heap.size v3 v4 by rw [hv4]; exact (Below.refl _ _).alloc (Nat.le_refl _) _)
  have HoM := Lib.hid (show OwnP v4 bM (.slice (some ⟨bM, 0, none⟩) 0 0) 0 [] by rw [hv4, hbM]; exact OwnP.empty v3 (Nat.le_refl _))
  have hsM : bM ≤ v4.heap.size := by have := HbM.out.size; omega
  have HzM := Lib.hid hbM
  have HWM := Lib.hid hv4
  clear hv4 hbM
  rw [← HWM.out, ← HzM.out]
  go_loopw [7, 8] (fun v7 v8 wr => ∃ j : Nat, v8 = .int .i64 (j : Int) ∧ j ≤ T + 1 ∧ OwnP wr bM v7 (List.replicate j Q).flatten.length (List.replicate j Q).flatten ∧ Below v3.heap.size v3 wr) (fun _ v8 _ => 9 - (intOf v8).toNat)
  case atStart => exact ⟨0, rfl, Nat.zero_le _, HoM.out, HbM.out⟩
  case round =>
    obtain ⟨j, rfl, hj, hown, hBr⟩ := hrel
    have hbM : bM ≤ wr.heap.size := by have := hBr.size; have := HzM.out; omega
    obtain ⟨R, hR⟩ : ∃ q, q = (List.replicate j Q).flatten := ⟨_, rfl⟩
    rw [← hR] at hown
    have hRl : R.length = j * Q.length := by rw [hR, List.length_flatten, List.map_replicate, List.sum_replicate_nat]
    have hRb : R.length ≤ 1000 := by rw [hRl]; exact Nat.le_trans (Nat.mul_le_mul (show j ≤ 8 by omega) hQl) (by decide)
    have HRok := Lib.hid (show ∀ x ∈ R, okP x from fun x hx => by rw [hR] at hx; obtain ⟨q, hq, hx⟩ := List.mem_flatten.1 hx; rw [(List.mem_replicate.1 hq).2] at hx; exact HQok.out x hx)
    have HR := Lib.hid hR
    obtain ⟨C, k, rfl, hk, hks⟩ := hown.pks
    have Hown := Lib.hid hown
    have HM := Lib.hid hks
    have HBr := Lib.hid hBr
    replace HB := Lib.hid (HB.out.trans (hBr.mono HB.out.size))
    replace HW := Lib.hid (HW.out.below hBr HW.out.lt)
    replace Hy := Lib.hid (Hy.out.below hBr)
    replace Hn := Lib.hid (Hn.out.below hBr)
    replace HBX6 := Lib.hid (HBX6.out.below hBr HBX6.out.lt)
    clear hR hRl hown hks hBr HoM HbM HWM hsM
    by_cases hjT : j ≤ T
    · have dj : decide ((j : Int) ≤ (T : Int)) = true := decide_eq_true (by omega)
      have dj' : (j : Int) ≤ (T : Int) := by omega
      have c1 : wr.cell? ⟨w.heap.size, 1, none⟩ = some (.slice B m d) := (HW.out.cell 1).trans rfl
      have hjw : IntKind.i64.wrap ((j : Int) + 1) = ((j + 1 : Nat) : Int) := by rw [IntKind.wrap_i64]; push_cast; omega
      go_upto_region 6 with fail
      refine (MadeNet0_any B m d ys wr Hy.out).mono ?_
      rintro e v61 ⟨⟨A7, N7, c7, rfl, hc7, hN7, hp_⟩, hb_⟩
      replace HB := Lib.hid (HB.out.trans (hb_.mono HB.out.size))
      replace HW := Lib.hid (HW.out.below hb_ HW.out.lt)
      replace Hy := Lib.hid (Hy.out.below hb_)
      replace Hn := Lib.hid (Hn.out.below hb_)
      replace HBX6 := Lib.hid (HBX6.out.below hb_ HBX6.out.lt)
      replace HM := Lib.hid (HM.out.below hb_)
      rw [← HQ.out] at hp_
      obtain rfl : Q.length = N7 := hp_.len
      have hbM' : bM ≤ v61.heap.size := by have := hb_.size; omega
      have Hq := Lib.hid hp_
      replace Hown := Lib.hid (Hown.out.below hb_ (Nat.le_refl _))
      replace HBr := Lib.hid (HBr.out.trans (hb_.mono HBr.out.size))
      clear hp_ hb_ c1
      have HRs := Lib.hid (show (List.replicate (j + 1) Q).flatten = R ++ Q by rw [List.replicate_succ', List.flatten_append, HR.out]; simp)
      go_wp2_with (first | (refine wpList_field rfl 30 (.tmp 28) 0 rfl _ _ rfl (field30 A7 Q.length c7 _) ?_) | (at_builtin; refine wpList_ownp rfl (.tmp 25) (.tmp 29) rfl bM hbM' _ R.length R rfl Hown.out A7 Q.length c7 Q rfl Hq.out (by omega) ?_; intro v7 wn ho_ hb_ hk_; have Hn_ := Lib.hid ho_; have Hb_ := Lib.hid hb_; clear ho_ hb_ hk_))
      refine ⟨⟨j + 1, by push_cast; rfl, by omega, ?_, HBr.out.trans (HzM.out ▸ Hb_.out)⟩, by simp only [intOf]; omega⟩
      rw [HRs.out, List.length_append]
      exact Hn_.out
    · have dj : decide ((j : Int) ≤ (T : Int)) = false := decide_eq_false (by omega)
      have dj' : ¬ (j : Int) ≤ (T : Int) := by omega
      clear hjT Hown HBr HzM HR HQ
      clear HW Hy
      obtain ⟨bE, hbE⟩ : ∃ q, q = wr.heap.size := ⟨_, rfl⟩
      obtain ⟨v81, hv81⟩ : ∃ q, q = wr.alloc (.cells #[] 39) := ⟨_, rfl⟩
      have HbE := Lib.hid (show Below wr.heap.size wr v81 by rw [hv81]; exact (Below.refl _ _).alloc (Nat.le_refl _) _)
      have HoE := Lib.hid (show OwnP v81 bE (.slice (some ⟨bE, 0, none⟩) 0 0) 0 [] by rw [hv81, hbE]; exact OwnP.empty wr (Nat.le_refl _))
      have hsE : bE ≤ v81.heap.size := by have := HbE.out.size; omega
      have HzE := Lib.hid hbE
      have HWE := Lib.hid hv81
      clear hv81 hbE
      have c6E : (wr.alloc (.cells #[] 39)).cell? ⟨X6, 0, none⟩ = some (.slice A6 N6 c6) := by rw [← HWE.out]; exact ((HBX6.out.below HbE.out HBX6.out.lt).cell 0).trans rfl
      go_upto_region 9 with (first | (at_builtin; rw [← HWE.out, ← HzE.out]; refine wpList_ownp rfl (.tmp 31) (.tmp 33) rfl bE hsE _ 0 [] rfl HoE.out A6 N6 c6 P rfl (Hn.out.below HbE.out) (by omega) ?_; intro v_E waE ho_E hb_E hk_E; rw [Nat.zero_add, List.nil_append] at ho_E; obtain ⟨AE, cE, rfl, hcE, hp_E⟩ := ho_E.pks; have HOE := Lib.hid ho_E; have HpE := Lib.hid hp_E; have HBE := Lib.hid (show Below wr.heap.size wr waE from HbE.out.trans (HzE.out ▸ hb_E)); clear ho_E hp_E hb_E hk_E; clear c6E) | (refine wpList_buildN rfl 30 _ rfl [(0, .slice AE N6 cE)] rfl _ (built30 AE N6 cE) ?_) | (refine wpList_alloc0 rfl 30 rfl #[.slice none 0 0] _ i30 hi30 hz30 rfl ?_; simp only [Act.put, List.setIfInBounds_toArray, List.set_cons_succ, List.set_cons_zero]; try simp only [World.size_alloc]) | (refine wpList_store_row rfl 30 (.tmp 9) (.tmp 35) rfl waE.heap.size #[.slice AE N6 cE] rfl rfl 30 _ (Blk.new waE _ _) (size30 _ rfl) rfl (net_one _ _ _) ?_; rw [alloc_setRow]))
      replace HB := Lib.hid (HB.out.trans (HBE.out.mono HB.out.size))
      replace Hn := Lib.hid (Hn.out.below HBE.out)
      replace HBX6 := Lib.hid (HBX6.out.below HBE.out HBX6.out.lt)
      replace HM := Lib.hid (HM.out.below HBE.out)
      clear HOE HBE HbE HoE HzE HWE hsE
      obtain ⟨X9, hX9⟩ : ∃ q, q = waE.heap.size := ⟨_, rfl⟩
      obtain ⟨v82, hv82⟩ : ∃ q, q = waE.alloc (.cells #[.slice AE N6 cE] 30) := ⟨_, rfl⟩
      have hb_ : Below waE.heap.size waE v82 := by rw [hv82]; exact (Below.refl _ _).alloc (Nat.le_refl _) _
      have HBX9 := Lib.hid (show Blk v82 X9 30 #[.slice AE N6 cE] by rw [hv82, hX9]; exact Blk.new _ _ _)
      have hlX9 : w.heap.size ≤ X9 := by have := HB.out.size; omega
      rw [← hv82, ← hX9]
      have hoX6X9 : X6 < X9 := by have := HBX6.out.lt; omega
      replace HB := Lib.hid (HB.out.trans (hb_.mono HB.out.size))
      replace Hn := Lib.hid (Hn.out.below hb_)
      replace HBX6 := Lib.hid (HBX6.out.below hb_ HBX6.out.lt)
      replace HM := Lib.hid (HM.out.below hb_)
      replace HpE := Lib.hid (HpE.out.below hb_)
      clear hb_ hv82 hX9
      have Hk := Lib.hid (Blk.range HBX6.out)
      go_upto_region 10 with (refine wpList_load_mid rfl 30 (.tmp 6) rfl X6 0 rfl [.slice A6 N6 c6] d30 Hk.out hd30 hrow30 (by skip; kernel_rfl) ?_)
      clear Hk
      refine (Send0_any A6 N6 c6 P C R.length k R v82 Hn.out HM.out hN6 (by omega) hk).mono ?_
      rintro e v83 ⟨⟨A10, c10, rfl, hc10, hp_, _⟩, hb_⟩
      replace HB := Lib.hid (HB.out.trans (hb_.mono HB.out.size))
      replace Hn := Lib.hid (Hn.out.below hb_)
      replace HBX6 := Lib.hid (HBX6.out.below hb_ HBX6.out.lt)
      replace HM := Lib.hid (HM.out.below hb_)
      replace HpE := Lib.hid (HpE.out.below hb_)
      replace HBX9 := Lib.hid (HBX9.out.below hb_ HBX9.out.lt)
      clear hb_
      have Hs := Lib.hid hp_
      clear hp_
      go_upto_region 10 with (first | (refine wpList_alloc0 rfl 30 rfl #[.slice none 0 0] _ i30 hi30 hz30 rfl ?_; simp only [Act.put, List.setIfInBounds_toArray, List.set_cons_succ, List.set_cons_zero]; try simp only [World.size_alloc]) | (refine wpList_store_row rfl 30 (.tmp 10) (.tmp 38) rfl v83.heap.size #[.slice A10 (N6 + min R.length (64 - N6)) c10] rfl rfl 30 _ (Blk.new v83 _ _) (size30 _ rfl) rfl (net_one _ _ _) ?_; rw [alloc_setRow]))
      obtain ⟨X10, hX10⟩ : ∃ q, q = v83.heap.size := ⟨_, rfl⟩
      obtain ⟨v84, hv84⟩ : ∃ q, q = v83.alloc (.cells #[.slice A10 (N6 + min R.length (64 - N6)) c10] 30) := ⟨_, rfl⟩
      have hb_ : Below v83.heap.size v83 v84 := by rw [hv84]; exact (Below.refl _ _).alloc (Nat.le_refl _) _
      have HBX10 := Lib.hid (show Blk v84 X10 30 #[.slice A10 (N6 + min R.length (64 - N6)) c10] by rw [hv84, hX10]; exact Blk.new _ _ _)
      have hlX10 : w.heap.size ≤ X10 := by have := HB.out.size; omega
      rw [← hv84, ← hX10]
      have hoX6X10 : X6 < X10 := by have := HBX6.out.lt; omega
      have hoX9X10 : X9 < X10 := by have := HBX9.out.lt; omega
      replace HB := Lib.hid (HB.out.trans (hb_.mono HB.out.size))
      replace Hn := Lib.hid (Hn.out.below hb_)
      replace HBX6 := Lib.hid (HBX6.out.below hb_ HBX6.out.lt)
      replace HM := Lib.hid (HM.out.below hb_)
      replace HpE := Lib.hid (HpE.out.below hb_)
      replace HBX9 := Lib.hid (HBX9.out.below hb_ HBX9.out.lt)
      replace Hs := Lib.hid (Hs.out.below hb_)
      clear hb_ hv84 hX10
      obtain ⟨bL, hbL⟩ : ∃ q, q = v84.heap.size := ⟨_, rfl⟩
      obtain ⟨v85, hv85⟩ : ∃ q, q = v84.alloc (.cells #[] 39) := ⟨_, rfl⟩
      have HbL := Lib.hid (show Below v84.heap.size v84 v85 by rw [hv85]; exact (Below.refl _ _).alloc (Nat.le_refl _) _)
      have HoL := Lib.hid (show OwnP v85 bL (.slice (some ⟨bL, 0, none⟩) 0 0) 0 [] by rw [hv85, hbL]; exact OwnP.empty v84 (Nat.le_refl _))
      have hsL : bL ≤ v85.heap.size := by have := HbL.out.size; omega
      have HzL := Lib.hid hbL
      have HWL := Lib.hid hv85
      clear hv85 hbL
      have c6L : (v84.alloc (.cells #[] 39)).cell? ⟨X6, 0, none⟩ = some (.slice A6 N6 c6) := by rw [← HWL.out]; exact ((HBX6.out.below HbL.out HBX6.out.lt).cell 0).trans rfl
      go_upto_region 11 with (at_builtin; rw [← HWL.out, ← HzL.out]; refine wpList_ownp rfl (.tmp 39) (.tmp 41) rfl bL hsL _ 0 [] rfl HoL.out A6 N6 c6 P rfl (Hn.out.below HbL.out) (by omega) ?_; intro v_L waL ho_L hb_L hk_L; rw [Nat.zero_add, List.nil_append] at ho_L; obtain ⟨AL, cL, rfl, hcL, hp_L⟩ := ho_L.pks; have HOL := Lib.hid ho_L; have HpL := Lib.hid hp_L; have HBL := Lib.hid (show Below v84.heap.size v84 waL from HbL.out.trans (HzL.out ▸ hb_L)); clear ho_L hp_L hb_L hk_L; clear c6L)
      have hsL2 : bL ≤ waL.heap.size := by have := HBL.out.size; have := HzL.out; omega
      have HM2 := Lib.hid (HM.out.below HBL.out)
      go_upto_region 12 with (at_builtin; refine wpList_ownp rfl (.tmp 43) (.tmp 44) rfl bL hsL2 _ N6 P rfl HOL.out C R.length k R rfl HM2.out (by omega) ?_; intro v_2 wb ho_2 hb_2 hk_2; obtain ⟨A11, c11, rfl, hc11, hp_2⟩ := ho_2.pks; have Ha := Lib.hid hp_2; have hb_ := HBL.out.trans (HzL.out ▸ hb_2); clear ho_2 hp_2 hb_2 hk_2)
      replace HB := Lib.hid (HB.out.trans (hb_.mono HB.out.size))
      replace Hn := Lib.hid (Hn.out.below hb_)
      replace HBX6 := Lib.hid (HBX6.out.below hb_ HBX6.out.lt)
      replace HM := Lib.hid (HM.out.below hb_)
      replace HpE := Lib.hid (HpE.out.below hb_)
      replace HBX9 := Lib.hid (HBX9.out.below hb_ HBX9.out.lt)
      replace Hs := Lib.hid (Hs.out.below hb_)
      replace HBX10 := Lib.hid (HBX10.out.below hb_ HBX10.out.lt)
      clear hb_ HOL HBL HbL HoL HzL HWL hsL hsL2 HM2 HpL
      obtain ⟨K, hK⟩ : ∃ q, q = min (N6 + R.length) 64 := ⟨_, rfl⟩
      have HK := Lib.hid hK
      have hsl := run_pk_h A11 (N6 + R.length) c11 K (by omega)
      clear hK
      go_upto_region 13 with (refine wpList_min rfl (.tmp 48) (.const (.int .i64 64)) _ rfl _ _ (K : Int) rfl rfl (by have := HK.out; omega) ?_)
      clear hsl
      have Hw := Lib.hid (show PksAt wb A11 K (P ++ R.take (64 - N6)) by
        have h := Ha.out.take (i := K) (by have := HK.out; omega)
        have hPl := Hn.out.len
        have e : (P ++ R).take K = P ++ R.take (64 - N6) := by
          rw [List.take_append, hPl, List.take_of_length_le (by have := HK.out; omega)]
          rcases Nat.le_total (N6 + R.length) 64 with h | h
          · rw [List.take_of_length_le (by have := HK.out; omega), List.take_of_length_le (by omega)]
          · rw [show K - N6 = 64 - N6 by have := HK.out; omega]
        rw [e] at h
        exact h)
      clear Ha
      have HPR := Lib.hid (show ∀ x ∈ P ++ R.take (64 - N6), okP x from fun x hx => by rcases List.mem_append.1 hx with h | h; exact HPok.out x h; exact HRok.out x (List.mem_of_mem_take h))
      have hKb : K ≤ 100000 := by have := HK.out; omega
      clear HK
      have Hk := Lib.hid (Blk.range HBX10.out)
      go_wp2_with (first | (refine wpList_load_mid_g (by first | rfl | simp [Region.wanted, yielded]) 30 (.tmp 10) rfl X10 0 rfl [.slice A10 (N6 + min R.length (64 - N6)) c10] d30 Hk.out hd30 hrow30 (by skip; kernel_rfl) ?_) | (refine wpList_buildN_g (by first | rfl | simp [Region.wanted, yielded]) 30 _ rfl [(0, .slice A11 K c11)] rfl _ (built30 A11 K c11) ?_))
      clear Hk
      refine (SameNet_any A10 (N6 + min R.length (64 - N6)) c10 (P ++ R.take (64 - N6)) A11 K c11 (P ++ R.take (64 - N6)) wb Hs.out Hw.out HPR.out HPR.out (by omega) hKb).mono ?_
      rintro e v86 ⟨rfl, hb_⟩
      replace HB := Lib.hid (HB.out.trans (hb_.mono HB.out.size))
      replace Hn := Lib.hid (Hn.out.below hb_)
      replace HBX6 := Lib.hid (HBX6.out.below hb_ HBX6.out.lt)
      replace HM := Lib.hid (HM.out.below hb_)
      replace HpE := Lib.hid (HpE.out.below hb_)
      replace HBX9 := Lib.hid (HBX9.out.below hb_ HBX9.out.lt)
      replace Hs := Lib.hid (Hs.out.below hb_)
      replace HBX10 := Lib.hid (HBX10.out.below hb_ HBX10.out.lt)
      replace Hw := Lib.hid (Hw.out.below hb_)
      clear hb_
      rw [decide_eq_true rfl]
      have Hk := Lib.hid (Blk.range HBX6.out)
      have Hk2 := Lib.hid (Blk.range HBX9.out)
      go_wp2_with (first | (refine wpList_load_mid_g (by first | rfl | simp [Region.wanted, yielded]) 30 (.tmp 6) rfl X6 0 rfl [.slice A6 N6 c6] d30 Hk.out hd30 hrow30 (by skip; kernel_rfl) ?_) | (refine wpList_load_mid_g (by first | rfl | simp [Region.wanted, yielded]) 30 (.tmp 9) rfl X9 0 rfl [.slice AE N6 cE] d30 Hk2.out hd30 hrow30 (by skip; kernel_rfl) ?_))
      clear Hk Hk2
      refine (SameNet_any A6 N6 c6 P AE N6 cE P v86 Hn.out HpE.out HPok.out HPok.out (by omega) (by omega)).mono ?_
      rintro e v87 ⟨rfl, hb_⟩
      replace HB := Lib.hid (HB.out.trans (hb_.mono HB.out.size))
      replace Hn := Lib.hid (Hn.out.below hb_)
      replace HBX6 := Lib.hid (HBX6.out.below hb_ HBX6.out.lt)
      replace HM := Lib.hid (HM.out.below hb_)
      replace HpE := Lib.hid (HpE.out.below hb_)
      replace HBX9 := Lib.hid (HBX9.out.below hb_ HBX9.out.lt)
      replace Hs := Lib.hid (Hs.out.below hb_)
      replace HBX10 := Lib.hid (HBX10.out.below hb_ HBX10.out.lt)
      replace Hw := Lib.hid (Hw.out.below hb_)
      clear hb_
      rw [decide_eq_true rfl]
      go_wp2_with fail
      go_ret
      exact ⟨rfl, HB.out⟩
end Go.Proofs.Yteofgkdpknaapaa
