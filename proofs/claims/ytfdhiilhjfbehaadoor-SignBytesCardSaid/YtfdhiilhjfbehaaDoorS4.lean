/- Package sign's reference: chunks and keys. -/
import Derived.Test.YtfdhiilhjfbehaaDoorS3
namespace Go.Proofs.YtfdhiilhjfbehaaDoor
open Go.RowKit Go.Sort

theorem u8_of (i : Nat) (h : i < 256) : IntKind.u8.wrap (i : Int) = (i : Int) := by
  have : IntKind.u8.wrap (i : Int) = (i : Int) % 256 := by rfl
  rw [this]; omega
theorem byte_of (i : Nat) (h : i < 256) : byteV (UInt8.ofNat i) = .int .u8 (i : Int) := by
  unfold byteV
  rw [UInt8.toNat_ofNat_of_lt' h]
theorem nil49 (w : World) : (Instr.buildSlice 49 0 #[]).run Tryd.prog w = .ok (.slice (some ⟨w.heap.size, 0, none⟩) 0 0) (w.alloc (.cells #[] 22)) := by kernel_rfl
theorem nil22 (w : World) : (Instr.buildSlice 22 0 #[]).run Tryd.prog w = .ok (.slice (some ⟨w.heap.size, 0, none⟩) 0 0) (w.alloc (.cells #[] 5)) := by kernel_rfl
set_option maxRecDepth 100000 in
set_option maxHeartbeats 1000000 in
theorem Start_any (k : Sc) (i c : Nat) (hi : i < 256) (hc : c < 256) (w : World) :
    Calls Tryd.prog 40 #[.agg (secV k).toArray, .int .i64 (i : Int), .int .i64 (c : Int)] w fun e w' => e = .returned (.agg (sumC (startS k.s (UInt8.ofNat i) (UInt8.ofNat c))).toArray) ∧ Below w.heap.size w w' := by
  obtain ⟨i0, hi0, hz0, hz1, hz2⟩ := info_parts info5
  go_enter Tryd.func40, Tryd.ntmps40
  go_upto_region 1 with fail
  obtain ⟨w1, hw1⟩ : ∃ w1, w1 = (w.alloc (.cells (secV k).toArray 28)).alloc (.cells zero32 26) := ⟨_, rfl⟩
  have hB1 : Below w.heap.size w w1 := by rw [hw1]; exact ((Below.refl _ _).alloc (Nat.le_refl _) _).alloc (by simp) _
  have hX1 : Blk w1 w.heap.size 28 (secV k).toArray := by rw [hw1]; exact (Blk.new _ _ _).alloc _
  have hZ1 : Blk w1 (w.heap.size + 1) 26 zero32 := by
    have := Blk.new (w.alloc (.cells (secV k).toArray 28)) 26 zero32
    rw [World.size_alloc] at this
    rw [hw1]; exact this
  simp only [zero32, List.replicate_succ, List.replicate_zero] at hw1
  rw [← hw1]
  clear hw1
  have HB1 := Lib.hid hB1
  have HZ1 := Lib.hid hZ1
  have hxr : Rd w1 1 (some ⟨w.heap.size, 0, none⟩) 32 (sumC k.s) := ⟨by rw [sumC_len], by omega, fun _ => ⟨_, _, rfl, fun j u hu => by rw [hX1.cell, List.getElem?_toArray, Nat.zero_add]; exact sec_seed k hu⟩⟩
  have Hxr := Lib.hid hxr
  have hszb := hB1.size
  have hu1 := u8_of i hi
  have hu2 := u8_of c hc
  clear hB1 hZ1 hX1 hxr
  go_wp2_with (first | (at_builtin; refine wpList_app rfl (.tmp 8) (.tmp 10) 22 rfl 5 i0 (.int .u8 0) 1 Tryd.underlying22 hi0 hz0 hz1 hz2 rfl w1.heap.size (by simp) _ _ _ rfl (.inr (own_lit w1 5 (.int .u8 2))) (some ⟨w.heap.size, 0, none⟩) 32 32 (sumC k.s) rfl (Hxr.out.alloc _) (oneB _) (by unfold maxLen; omega) (by omega) ?_; intro v' w2 happ hb1; have Happ := Lib.hid happ; have Hb1 := Lib.hid (((Below.refl w1.heap.size w1).alloc (Nat.le_refl _) (.cells #[.int .u8 2] 5)).trans hb1); have hsz2 := Hb1.out.size; clear happ hb1) | (at_builtin; refine wpList_app rfl (.tmp 12) (.tmp 17) 22 rfl 5 i0 (.int .u8 0) 1 Tryd.underlying22 hi0 hz0 hz1 hz2 rfl w1.heap.size (by simp; omega) _ _ _ rfl (Happ.out.litE _) (some ⟨w2.heap.size, 0, none⟩) 2 2 [.int .u8 (i : Int), .int .u8 (c : Int)] rfl ((Blk.new w2 5 #[.int .u8 (i : Int), .int .u8 (c : Int)]).rd (xs := [.int .u8 (i : Int), .int .u8 (c : Int)]) (by simp)) (by simp [Value.oneCell']) (by unfold maxLen; omega) (by omega) ?_; intro v2 w3 happ2 hb3; obtain ⟨A1, c1, rfl, hc1, hrd1⟩ := happ2.rd))
  have hb9 := ((Hb1.out.alloc hsz2 (.cells #[.int .u8 (i : Int), .int .u8 (c : Int)] 5)).trans hb3)
  have hrd : Rd w3 1 A1 (1 + 32 + 2) ((2 :: k.s.1 ++ [UInt8.ofNat i, UInt8.ofNat c]).map byteV) := by
    have e : (2 :: k.s.1 ++ [UInt8.ofNat i, UInt8.ofNat c]).map byteV = [.int .u8 2] ++ sumC k.s ++ [.int .u8 (i : Int), .int .u8 (c : Int)] := by
      rw [List.map_append, List.map_cons, List.map_cons, List.map_cons, List.map_nil, byte_of i hi, byte_of c hc]; rfl
    rw [e]; exact hrd1
  have HZ2 := Lib.hid (HZ1.out.below hb9 HZ1.out.lt)
  have HB2 := Lib.hid (HB1.out.trans (hb9.mono hszb))
  have hsz3 := HB2.out.size
  have Hsm := Lib.hid (RSum_any A1 (1 + 32 + 2) c1 _ w3 hrd (by omega))
  clear hb9 hrd hrd1 hb3 happ2 HZ1 HB1 Happ Hb1 Hxr hu1 hu2
  refine Hsm.out.mono ?_
  rintro e w4 ⟨rfl, hb4⟩
  have HZ3 := Lib.hid (HZ2.out.below hb4 HZ2.out.lt)
  have HB3 := Lib.hid (HB2.out.trans (hb4.mono hsz3))
  clear hb4 Hsm
  go_wp2_with (refine wpList_store_row rfl 26 (.tmp 6) (.tmp 19) rfl (w.heap.size + 1) (sumC (startS k.s (UInt8.ofNat i) (UInt8.ofNat c))).toArray rfl rfl 26 _ HZ3.out (size32 _ (sum_size _)) ((zero32_size).trans (sum_size _).symm) (all_oneCell_toArray (oneB _)) ?_)
  refine bodyPost_ret (results_cell_row rfl _ _ (w.heap.size + 1) 26 _ (0, 0) _ rfl (setRow_heap _ _ _ _ _ _ HZ3.out) und32 rfl (size32 _ (sum_size _))) rfl ⟨rfl, Below.setRow HB3.out (by omega) _⟩
set_option maxRecDepth 100000 in
set_option maxHeartbeats 1000000 in
theorem Chunk_any (k : Sc) (i : Nat) (hi : i < 256) (w : World) :
    Calls Tryd.prog 50 #[.agg (secV k).toArray, .int .i64 (i : Int)] w fun e w' => (∃ (A : Option Addr) (c : Nat), e = .returned (.slice A 2144 c) ∧ 2144 ≤ c ∧ TRd w' 5 1 A 2144 ((chunkS k.s (UInt8.ofNat i)).map byteV)) ∧ Below w.heap.size w w' := by
  obtain ⟨i0, hi0, hz0, hz1, hz2⟩ := info_parts info5
  obtain ⟨i32, hi32, hz32, _, _⟩ := info_parts info32
  obtain ⟨d28, hd28, hrow28⟩ := und28
  have hbs := nil22
  go_enter Tryd.func50, Tryd.ntmps50
  go_upto_region 1 with fail
  obtain ⟨w1, hw1⟩ : ∃ w1, w1 = w.alloc (.cells (secV k).toArray 28) := ⟨_, rfl⟩
  have hB1 : Below w.heap.size w w1 := by rw [hw1]; exact (Below.refl _ _).alloc (Nat.le_refl _) _
  have hX1 : Blk w1 w.heap.size 28 (secV k).toArray := by rw [hw1]; exact Blk.new _ _ _
  rw [← hw1]
  clear hw1
  go_upto_region 2 with fail
  obtain ⟨w2, hw2⟩ : ∃ w2, w2 = w1.alloc (.cells #[] 5) := ⟨_, rfl⟩
  have hb2 : Below w1.heap.size w1 w2 := by rw [hw2]; exact (Below.refl _ _).alloc (Nat.le_refl _) _
  rw [← hw2]
  clear hw2
  have HX := Lib.hid (hX1.below hb2 hX1.lt)
  have HB := Lib.hid (hB1.trans (hb2.mono hB1.size))
  clear hB1 hX1 hb2 hbs
  go_wp2_with fail
  go_loopw [5, 6] (fun v5 v6 wr => ∃ c : Nat, v6 = .int .i64 (c : Int) ∧ c ≤ 67 ∧ App wr w2.heap.size 5 v5 (32 * c) ((chunkK k.s (UInt8.ofNat i) c).map byteV) ∧ Below w2.heap.size w2 wr) (fun _ v6 _ => 67 - (intOf v6).toNat)
  case atStart => exact ⟨0, rfl, by omega, .inl ⟨rfl, rfl, _, rfl⟩, Below.refl _ _⟩
  case round =>
    obtain ⟨c, rfl, hc, happ, hBr⟩ := hrel
    have Happ := Lib.hid happ
    have HBr := Lib.hid hBr
    have hszr := hBr.size
    clear happ hBr
    by_cases hlt : c < 67
    · have d0 : decide ((c : Int) < 67) = true := decide_eq_true (by omega)
      have Hrg := Lib.hid (Blk.range (HX.out.below HBr.out HX.out.lt))
      go_upto_region 6 with (refine wpList_load_mid rfl 28 (.tmp 2) rfl w.heap.size 0 rfl (secV k) d28 Hrg.out hd28 hrow28 (by rw [secV_len]; kernel_rfl) ?_)
      refine (Start_any k i c hi (by omega) wr).mono ?_
      rintro e w3 ⟨rfl, hb3⟩
      clear d0
      go_upto_region 6 with fail
      refine (RSteps_any (startS k.s (UInt8.ofNat i) (UInt8.ofNat c)) 15 (by omega) w3).mono ?_
      rintro e w4 ⟨rfl, hb4⟩
      have hb4 := hb3.trans (hb4.mono hb3.size)
      obtain ⟨X, hX⟩ : ∃ X, X = stS (startS k.s (UInt8.ofNat i) (UInt8.ofNat c)) 15 := ⟨_, rfl⟩
      rw [← hX]
      have hn_ : Blk (w4.alloc (.cells zero32 26)) w4.heap.size 26 zero32 := Blk.new _ _ _
      have Hn_ := Lib.hid hn_
      have HXe := Lib.hid hX
      clear hn_ hX
      go_upto_region 6 with (first | (refine wpList_alloc0 rfl 26 rfl zero32 _ i32 hi32 hz32 rfl ?_; simp only [Act.put, List.setIfInBounds_toArray, List.set_cons_succ, List.set_cons_zero]) | (refine wpList_store_row rfl 26 (.tmp 7) (.tmp 17) rfl (w4.heap.size) (sumC X).toArray rfl rfl 26 _ Hn_.out (size32 _ (sum_size _)) ((zero32_size).trans (sum_size _).symm) (all_oneCell_toArray (oneB _)) ?_))
      obtain ⟨w5, hw5⟩ : ∃ v, v = (w4.alloc (.cells zero32 26)).setRow w4.heap.size (sumC X).toArray := ⟨_, rfl⟩
      have hb5 : Below w4.heap.size w4 w5 := by rw [hw5]; exact Below.setRow ((Below.refl _ _).alloc (Nat.le_refl _) _) (Nat.le_refl _) _
      have hX5 : Blk w5 w4.heap.size 26 (sumC X).toArray := by rw [hw5]; exact setRow_heap _ _ _ _ _ _ Hn_.out
      rw [← hw5]
      clear hw5 Hn_
      have hb5 := hb4.trans (hb5.mono hb4.size)
      have hxr : Rd w5 1 (some ⟨w4.heap.size, 0, none⟩) 32 (sumC X) := by
        have := hX5.rd (by rw [sumC_len]; omega)
        rwa [sumC_len] at this
      have Hxr := Lib.hid hxr
      replace Happ := Lib.hid (Happ.out.below hb5 (Nat.le_refl _))
      have HB5 := Lib.hid (HBr.out.trans (hb5.mono hszr))
      have hsz5 := HB5.out.size
      clear hb3 hb4 hb5 hX5 hxr Hrg
      simp only [Act.put]
      go_wp2_with (at_builtin; refine wpList_app rfl (.tmp 18) (.tmp 19) 22 rfl 5 i0 (.int .u8 0) 1 Tryd.underlying22 hi0 hz0 hz1 hz2 rfl w2.heap.size hsz5 _ _ _ rfl Happ.out (some ⟨w4.heap.size, 0, none⟩) 32 32 (sumC X) rfl Hxr.out (oneB _) (by unfold maxLen; omega) (by omega) ?_; intro v6 w6 happ6 hb6)
      have hb7 := HB5.out.trans hb6
      exact ⟨⟨c + 1, by go_num, by omega, by rw [chunkK, List.map_append, ← HXe.out]; exact happ6, hb7⟩, by simp [intOf]; omega⟩
    · have he : c = 67 := by omega
      subst he
      obtain ⟨A', c', rfl, hc', hR⟩ := Happ.out.trd
      have HR := Lib.hid hR
      have HBx := Lib.hid (HB.out.trans (HBr.out.mono HB.out.size))
      clear hR hlt
      go_wp2_with fail
      go_ret
      exact ⟨⟨A', c', rfl, hc', HR.out⟩, HBx.out⟩
theorem pow_shl (H : Nat) (_h : H ≤ 4) : (2 : Int) ^ H = ((2 ^ H : Nat) : Int) := by push_cast; rfl
set_option maxRecDepth 100000 in
set_option maxHeartbeats 1000000 in
theorem Keys_any (k : Sc) (H : Nat) (hH : k.h = (H : Int)) (h4 : H ≤ 4) (w : World) :
    Calls Tryd.prog 26 #[.agg (secV k).toArray] w fun e w' => (∃ (v : Value) (vs : List Sl), e = .returned v ∧ AppZ w' w.heap.size 22 1 v (2 ^ H) (vs.map slV) ∧ Ins w' vs (keysS k.s (2 ^ H))) ∧ Below w.heap.size w w' := by
  obtain ⟨i22, hi22, hz22, hs22, hy22⟩ := info_parts info22
  obtain ⟨d28, hd28, hrow28⟩ := und28
  have hbs := nil49
  obtain ⟨N, hN⟩ : ∃ N, N = 2 ^ H := ⟨_, rfl⟩
  have hN16 : N ≤ 16 := by rw [hN]; exact Nat.pow_le_pow_right (n := 2) (i := H) (j := 4) (by omega) h4
  go_enter Tryd.func26, Tryd.ntmps26
  go_upto_region 1 with fail
  obtain ⟨w1, hw1⟩ : ∃ w1, w1 = w.alloc (.cells (secV k).toArray 28) := ⟨_, rfl⟩
  have hB1 : Below w.heap.size w w1 := by rw [hw1]; exact (Below.refl _ _).alloc (Nat.le_refl _) _
  have hX1 : Blk w1 w.heap.size 28 (secV k).toArray := by rw [hw1]; exact Blk.new _ _ _
  rw [← hw1]
  clear hw1
  go_upto_region 2 with fail
  obtain ⟨w2, hw2⟩ : ∃ w2, w2 = w1.alloc (.cells #[] 22) := ⟨_, rfl⟩
  have hb2 : Below w1.heap.size w1 w2 := by rw [hw2]; exact (Below.refl _ _).alloc (Nat.le_refl _) _
  have hE2 : Blk w2 w1.heap.size 22 #[] := by rw [hw2]; exact Blk.new _ _ _
  rw [← hw2]
  clear hw2
  have HX := Lib.hid hX1
  have HB := Lib.hid hB1
  have Hb2 := Lib.hid hb2
  have HE := Lib.hid hE2
  have hsz1 := hB1.size
  have HN := Lib.hid hN
  have hsec := sec_h k
  rw [hH] at hsec
  have Hsec := Lib.hid hsec
  clear hB1 hX1 hb2 hbs hE2 hN hsec hH
  go_wp2_with fail
  go_loopw [3, 4] (fun v3 v4 wr => ∃ (i : Nat) (vs : List Sl), v4 = .int .i64 (i : Int) ∧ i ≤ N ∧ AppZ wr w1.heap.size 22 1 v3 i (vs.map slV) ∧ OwnB wr 22 v3 ∧ Ins wr vs (keysS k.s i) ∧ Below w1.heap.size w1 wr) (fun _ v4 _ => N - (intOf v4).toNat)
  case atStart => exact ⟨0, [], rfl, by omega, .inl ⟨rfl, rfl, _, rfl, Nat.le_refl _, HE.out.lt⟩, (fun g e => by cases e; exact ⟨_, HE.out⟩), ⟨rfl, fun j v c h => by simp at h⟩, Hb2.out⟩
  case round =>
    obtain ⟨i, vs, rfl, hi, happ, hown, hins, hBr⟩ := hrel
    have Happ := Lib.hid happ
    have Hown := Lib.hid hown
    have Hins := Lib.hid hins
    have HBr := Lib.hid hBr
    have hszr := hBr.size
    have hXr := HX.out.below hBr HX.out.lt
    have c0 : wr.cell? ⟨w.heap.size, 32, none⟩ = some (.int .i64 (H : Int)) := by rw [hXr.cell, List.getElem?_toArray]; exact Hsec.out
    have Hrg := Lib.hid (Blk.range hXr)
    clear happ hown hins hBr hXr HE
    have hsh : wrap64 ((2 : Int) ^ H) = (N : Int) := by
      rw [pow_shl H h4, ← HN.out]; unfold wrap64; omega
    by_cases hlt : i < N
    · have d0 : decide ((i : Int) < wrap64 ((2 : Int) ^ H)) = true := by rw [hsh]; exact decide_eq_true (by omega)
      go_upto_region 4 with (refine wpList_load_mid rfl 28 (.tmp 1) rfl w.heap.size 0 rfl (secV k) d28 Hrg.out hd28 hrow28 (by rw [secV_len]; kernel_rfl) ?_)
      refine (Chunk_any k i (by omega) wr).mono ?_
      rintro e w3 ⟨⟨A3, c3, rfl, hc3, ht3⟩, hb3⟩
      obtain ⟨CK, hCK⟩ : ∃ x, x = chunkS k.s (UInt8.ofNat i) := ⟨_, rfl⟩
      rw [← hCK] at ht3
      have HCK := Lib.hid hCK
      have Ht3 := Lib.hid ht3
      replace Happ := Lib.hid (Happ.out.below hb3 (Nat.le_refl _))
      replace Hown := Lib.hid (Hown.out.below hb3)
      replace Hins := Lib.hid (Hins.out.below hb3)
      have HB3 := Lib.hid (HBr.out.trans (hb3.mono hszr))
      have hsz3 := HB3.out.size
      clear hb3 ht3 d0 hsh c0 Hrg hCK
      go_wp2_with (at_builtin; refine wpList_appz rfl (.tmp 13) (.tmp 17) 49 rfl 22 i22 (.slice none 0 0) 1 24 Tryd.underlying49 hi22 hz22 hs22 hy22 rfl (by omega) w1.heap.size (by simp; omega) _ i _ rfl (AppZ.alloc Happ.out _) (some ⟨w3.heap.size, 0, none⟩) 1 1 [slV ⟨A3, 2144, c3⟩] rfl (lit_rdE _ _ _) (by simp [slV, Value.oneCell']) (by unfold maxLen; omega) (by omega) ?_; intro v9 w9 ha9 hg9; have Ha9 := Lib.hid ha9; have Hg9 := Lib.hid hg9; clear ha9 hg9)
      have hown' : ∀ g, u3.ownBlock = some g → ∃ cur, Blk (w3.alloc (.cells #[.slice A3 2144 c3] 22)) g 22 cur := fun g e => by obtain ⟨cur, hc⟩ := Hown.out g e; exact ⟨cur, hc.alloc _⟩
      have hba : Below w3.heap.size w3 (w3.alloc (.cells #[.slice A3 2144 c3] 22)) := (Below.refl _ _).alloc (Nat.le_refl _) _
      have hi9 := (Hins.out.below hba).grown Hg9.out hown' (by decide)
      have ht9 := (Ht3.out.below hba).grown Hg9.out hown' (by decide)
      have hb9 : Below w1.heap.size w1 w9 := (HB3.out.trans (hba.mono hsz3)).grown Hg9.out (by simp; omega) (fun g e => (Happ.out.lt g e).1)
      have hap : AppZ w9 w1.heap.size 22 1 v9 (i + 1) ((vs ++ [(⟨A3, 2144, c3⟩ : Sl)]).map slV) := by rw [List.map_append]; exact Ha9.out
      refine ⟨⟨i + 1, vs ++ [(⟨A3, 2144, c3⟩ : Sl)], by go_num, by omega, hap, OwnB.of hap (by omega), ?_, hb9⟩, by simp [intOf]; omega⟩
      rw [keysS_succ, ← HCK.out]
      have hone : Ins w9 [(⟨A3, 2144, c3⟩ : Sl)] [CK] := ⟨rfl, fun j v c hv hc => by
        cases j with
        | zero =>
          simp only [List.getElem?_cons_zero, Option.some.injEq] at hv hc
          subst hv; subst hc; exact ⟨ht9, hc3⟩
        | succ j => simp at hv⟩
      exact hi9.append hone
    · have he : i = N := by omega
      subst he
      have d0 : decide ((i : Int) < wrap64 ((2 : Int) ^ H)) = false := by rw [hsh]; exact decide_eq_false (by omega)
      have HBx := Lib.hid (HB.out.trans (HBr.out.mono hsz1))
      have HN2 := HN.out
      have Hfin := Lib.hid (show AppZ wr w.heap.size 22 1 u3 (2 ^ H) (vs.map slV) ∧ Ins wr vs (keysS k.s (2 ^ H)) by rw [← HN.out]; exact ⟨Happ.out.mono hsz1, Hins.out⟩)
      clear hlt hsh HN2
      go_wp2_with fail
      go_ret
      exact ⟨⟨_, vs, rfl, Hfin.out⟩, HBx.out⟩
end Go.Proofs.YtfdhiilhjfbehaaDoor
