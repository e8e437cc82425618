/- Package sign's reference: the digits of a body. -/
import Derived.Test.YtfdhiilhjfbehaaDoorS8
namespace Go.Proofs.YtfdhiilhjfbehaaDoor
open Go.RowKit Go.Sort

theorem wrap_q (b : UInt8) : IntKind.i64.wrap (IntKind.u8.wrap ((b.toNat : Int) / 16)) = ((b.toNat / 16 : Nat) : Int) := by
  have := b.toNat_lt
  have h : ((b.toNat : Int) / 16) = ((b.toNat / 16 : Nat) : Int) := by omega
  rw [h]; simp [IntKind.wrap, IntKind.bits, IntKind.signed]; omega
theorem wrap_r (b : UInt8) : IntKind.i64.wrap ((b.toNat : Int).tmod 16) = ((b.toNat % 16 : Nat) : Int) := by
  have := b.toNat_lt
  have h : (b.toNat : Int).tmod 16 = ((b.toNat % 16 : Nat) : Int) := by rw [Int.tmod_eq_emod_of_nonneg (by omega)]; omega
  rw [h]; simp [IntKind.wrap, IntKind.bits, IntKind.signed]; omega
theorem buildI3 (w : World) (a b c : Int) : (Instr.buildSlice 52 3 #[(0, .int .i64 a), (1, .int .i64 b), (2, .int .i64 c)]).run Tryd.prog w = .ok (.slice (some ⟨w.heap.size, 0, none⟩) 3 3) (w.alloc (.cells #[.int .i64 a, .int .i64 b, .int .i64 c] 3)) := by kernel_rfl
theorem nilI (w : World) : (Instr.buildSlice 52 0 #[]).run Tryd.prog w = .ok (.slice (some ⟨w.heap.size, 0, none⟩) 0 0) (w.alloc (.cells #[] 3)) := by kernel_rfl
set_option maxRecDepth 100000 in
set_option maxHeartbeats 1000000 in
theorem RDigits_any (A : Option Addr) (len cap : Nat) (bs : List UInt8) (w : World) (hr : Rd w 1 A len (bs.map byteV)) (hlen : len ≤ 8796093021000) :
    Calls Tryd.prog 38 #[.slice A len cap] w fun e w' => (∃ (A' : Option Addr) (c : Nat), e = .returned (.slice A' 67 c) ∧ Rd w' 1 A' 67 ((digS bs).map natV)) ∧ Below w.heap.size w w' := by
  obtain ⟨i0, hi0, hz0, hz1, hz2⟩ := info_parts info5
  obtain ⟨i3, hi3, hz3, hs3, hy3⟩ := info_parts info3
  obtain ⟨i32, hi32, hz32, _, _⟩ := info_parts info32
  have hl := hr.len1
  have h1 := oneB bs
  have hbs := nilI
  go_enter Tryd.func38, Tryd.ntmps38
  go_upto_region 1 with fail
  go_upto_region 2 with (at_builtin; refine wpList_app rfl (.tmp 7) (.tmp 8) 22 rfl 5 i0 (.int .u8 0) 1 Tryd.underlying22 hi0 hz0 hz1 hz2 rfl w.heap.size (by simp) _ 1 _ rfl (.inr (own_lit w 5 (.int .u8 4))) A len cap (bs.map byteV) rfl (hr.alloc _) h1 (by unfold maxLen; omega) (by omega) ?_; intro v' w2 happ hb1; obtain ⟨A1, c1, rfl, hc1, hrd1⟩ := happ.rd)
  have hB2 : Below w.heap.size w w2 := ((Below.refl _ _).alloc (Nat.le_refl _) _).trans hb1
  refine (RSum_any A1 (1 + len) c1 (4 :: bs) w2 hrd1 (by omega)).mono ?_
  rintro e w3 ⟨rfl, hb3⟩
  have hB3 := hB2.trans (hb3.mono hB2.size)
  obtain ⟨D, hD⟩ : ∃ D, D = shaS (4 :: bs) := ⟨_, rfl⟩
  have hV : sumV (sha (4 :: bs)) = .agg (sumC D).toArray := by rw [hD]; rfl
  rw [hV]
  have hdig : digS bs = digB D.1 := by rw [hD]; rfl
  have Hdig := Lib.hid hdig
  have Hn_ := Lib.hid (Blk.new w3 26 zero32)
  have HB3 := Lib.hid hB3
  have hsz3 := hB3.size
  clear hD hV hdig hb1 happ hrd1 hB2 hb3 hB3 hr h1
  go_upto_region 2 with (first | (refine wpList_alloc0 rfl 26 rfl zero32 _ i32 hi32 hz32 rfl ?_; simp only [Act.put, List.setIfInBounds_toArray, List.set_cons_succ, List.set_cons_zero]) | (refine wpList_store_row rfl 26 (.tmp 3) (.tmp 10) rfl (w3.heap.size) (sumC D).toArray rfl rfl 26 _ Hn_.out (size32 _ (sum_size _)) ((zero32_size).trans (sum_size _).symm) (all_oneCell_toArray (oneB _)) ?_))
  obtain ⟨w4, hw4⟩ : ∃ v, v = (w3.alloc (.cells zero32 26)).setRow w3.heap.size (sumC D).toArray := ⟨_, rfl⟩
  have hb4 : Below w3.heap.size w3 w4 := by rw [hw4]; exact Below.setRow ((Below.refl _ _).alloc (Nat.le_refl _) _) (Nat.le_refl _) _
  have hD4 : Blk w4 w3.heap.size 26 (sumC D).toArray := by rw [hw4]; exact setRow_heap _ _ _ _ _ _ Hn_.out
  rw [← hw4]
  clear hw4 Hn_
  obtain ⟨B, hB⟩ : ∃ v, v = w3.heap.size := ⟨_, rfl⟩
  rw [← hB] at hD4 ⊢
  clear hB
  have HB4 := Lib.hid (HB3.out.trans (hb4.mono hsz3))
  have HD4 := Lib.hid hD4
  clear hb4 hD4 HB3
  simp only [Act.put]
  go_upto_region 3 with fail
  obtain ⟨w5, hw5⟩ : ∃ v, v = w4.alloc (.cells #[] 3) := ⟨_, rfl⟩
  have hb5 : Below w4.heap.size w4 w5 := by rw [hw5]; exact (Below.refl _ _).alloc (Nat.le_refl _) _
  rw [← hw5]
  clear hw5
  have HB5 := Lib.hid (HB4.out.trans (hb5.mono HB4.out.size))
  have HD5 := Lib.hid (HD4.out.below hb5 HD4.out.lt)
  have hDl : D.1.length = 32 := D.2
  have hsz5 := HB5.out.size
  clear hb5 HD4 HB4 hbs
  go_wp2_with fail
  go_loopw [4, 5, 6] (fun v4 v5 v6 wr => ∃ i : Nat, v6 = .int .i64 (i : Int) ∧ i ≤ 32 ∧ v5 = .int .i64 (lackL (D.1.take i) : Int) ∧ App wr w5.heap.size 3 v4 (2 * i) (((D.1.take i).flatMap two_).map natV) ∧ Below w5.heap.size w5 wr) (fun _ _ v6 _ => 32 - (intOf v6).toNat)
  case atStart => exact ⟨0, rfl, by omega, rfl, .inl ⟨rfl, rfl, _, rfl⟩, Below.refl _ _⟩
  case round =>
    obtain ⟨i, rfl, hi, rfl, happ, hBr⟩ := hrel
    have Happ := Lib.hid happ
    have HBr := Lib.hid hBr
    have hszr := hBr.size
    clear happ hBr
    by_cases hlt : i < 32
    · have d0 : decide ((i : Int) < 32) = true := decide_eq_true (by omega)
      obtain ⟨b, hb⟩ : ∃ b, D.1[i]? = some b := ⟨_, List.getElem?_eq_getElem (by rw [hDl]; exact hlt)⟩
      have hcell : wr.cell? ⟨B, i, none⟩ = some (.int .u8 (b.toNat : Int)) := by
        rw [(HD5.out.below HBr.out HD5.out.lt).cell, List.getElem?_toArray]; unfold sumC; rw [List.getElem?_map, hb]; rfl
      have htk : D.1.take (i + 1) = D.1.take i ++ [b] := by rw [List.take_add_one, hb]; rfl
      have hbl := b.toNat_lt
      have hll : lackL (D.1.take i) ≤ 960 := Nat.le_trans (lackL_le 32 _ (by rw [List.length_take]; omega)) (by omega)
      have Htk := Lib.hid htk
      have Hpl := Lib.hid (show lackL (D.1.take (i + 1)) = lackL (D.1.take i) + (30 - b.toNat / 16 - b.toNat % 16) by rw [htk, lackL_snoc, lack])
      have HcC := Lib.hid (show (sumC D).toArray[i]? = some (.int .u8 (b.toNat : Int)) by rw [List.getElem?_toArray]; unfold sumC; rw [List.getElem?_map, hb]; rfl)
      clear hb htk
      go_upto_region 7 with fail
      have hi32 : (i : Int) < 32 := by omega
      have hi0 : (0 : Int) ≤ (i : Int) := by omega
      have e1 : IntKind.i64.wrap (IntKind.u8.wrap ((b.toNat : Int) / 16)) = ((b.toNat / 16 : Nat) : Int) := wrap_q b
      have e2 : IntKind.i64.wrap ((b.toNat : Int).tmod 16) = ((b.toNat % 16 : Nat) : Int) := wrap_r b
      have hlit : ∀ wz : World, Rd ((wz.alloc (.cells #[.int .i64 ((b.toNat : Int) / 16), .int .i64 ((b.toNat : Int) % 16)] 3)).drew) 1 (some ⟨wz.heap.size, 0, none⟩) 2 [natV (b.toNat / 16), natV (b.toNat % 16)] := by
        intro wz; exact (Blk.new wz 3 #[natV (b.toNat / 16), natV (b.toNat % 16)]).rd (xs := [natV (b.toNat / 16), natV (b.toNat % 16)]) (by simp)
      go_region_law (refine step_app rfl (.tmp 16) (.tmp 27) 52 rfl 3 i3 (.int .i64 0) 8 Tryd.underlying52 hi3 hz3 hs3 hy3 rfl w5.heap.size (by simp; omega) _ _ _ rfl (Happ.out.litE _) (some ⟨wr.heap.size, 0, none⟩) 2 2 [natV (b.toNat / 16), natV (b.toNat % 16)] rfl (hlit wr) (by simp [natV, Value.oneCell']) (by unfold maxLen; omega) (by omega) ?_; intro v9 w9 ha9 hb9)
      all_goals
        have HB9 := Lib.hid (HBr.out.trans ((((Below.refl w5.heap.size wr).alloc hszr _).drew).trans hb9))
        have Ha9 := Lib.hid ha9
        have hcell9 : w9.cell? ⟨B, i, none⟩ = some (.int .u8 (b.toNat : Int)) := by
          rw [(HD5.out.below HB9.out HD5.out.lt).cell]; exact HcC.out
        have e3 : IntKind.i64.wrap (30 - (b.toNat : Int) / 16) = 30 - (b.toNat : Int) / 16 := by simp [IntKind.wrap, IntKind.bits, IntKind.signed]; omega
        have e4 : IntKind.i64.wrap (30 - (b.toNat : Int) / 16 - (b.toNat : Int) % 16) = 30 - (b.toNat : Int) / 16 - (b.toNat : Int) % 16 := by simp [IntKind.wrap, IntKind.bits, IntKind.signed]; omega
        have e5 : IntKind.i64.wrap ((lackL (D.1.take i) : Int) + (30 - (b.toNat : Int) / 16 - (b.toNat : Int) % 16)) = ((lackL (D.1.take (i + 1)) : Nat) : Int) := by rw [Hpl.out]; simp [IntKind.wrap, IntKind.bits, IntKind.signed]; omega
        clear hb9 ha9 hcell hlit
        go_upto_region 8 with fail
        go_quiet (fail)
        go_wp2_with fail
        have hxs : (((D.1.take (i + 1)).flatMap two_).map natV) = ((D.1.take i).flatMap two_).map natV ++ [natV (b.toNat / 16), natV (b.toNat % 16)] := by
          rw [Htk.out, List.flatMap_append, List.map_append]; rfl
        refine ⟨⟨i + 1, by push_cast; rfl, by omega, rfl, ?_, below_drewN HB9.out _⟩, by simp only [intOf]; omega⟩
        rw [hxs]
        exact Ha9.out.below (below_drewN (Below.refl _ _) _) (Nat.le_refl _)
    · have d0 : decide ((i : Int) < 32) = false := decide_eq_false (by omega)
      obtain rfl : i = 32 := by omega
      obtain ⟨L, hL⟩ : ∃ L, L = lackL (D.1.take 32) := ⟨_, rfl⟩
      have hLl : L ≤ 960 := by rw [hL]; exact Nat.le_trans (lackL_le 32 _ (by rw [List.length_take]; omega)) (by omega)
      have htk : D.1.take 32 = D.1 := List.take_of_length_le (by omega)
      have Hdd := Lib.hid (show (digS bs).map natV = ((D.1.take 32).flatMap two_).map natV ++ [natV (L / 256), natV (L / 16 % 16), natV (L % 16)] by rw [Hdig.out, hL, htk]; unfold digB; rw [List.map_append]; rfl)
      have Hap := Happ
      rw [← hL]
      clear hL htk Happ
      have g1 : wrap64 ((L : Int) / 256) = (L : Int) / 256 := by unfold wrap64; omega
      have g2 : wrap64 ((L : Int) / 16) = (L : Int) / 16 := by unfold wrap64; omega
      have g3 : ((L : Int) / 16).tmod 16 = (L : Int) / 16 % 16 := by rw [Int.tmod_eq_emod_of_nonneg (by omega)]
      have hlit : ∀ wz : World, Rd (wz.alloc (.cells #[.int .i64 ((L : Int) / 256), .int .i64 ((L : Int) / 16 % 16), .int .i64 ((L : Int) % 16)] 3)) 1 (some ⟨wz.heap.size, 0, none⟩) 3 [natV (L / 256), natV (L / 16 % 16), natV (L % 16)] := by
        intro wz; exact (Blk.new wz 3 #[natV (L / 256), natV (L / 16 % 16), natV (L % 16)]).rd (xs := [natV (L / 256), natV (L / 16 % 16), natV (L % 16)]) (by simp)
      go_wp2_with (at_builtin; refine wpList_app rfl (.tmp 43) (.tmp 51) 52 rfl 3 i3 (.int .i64 0) 8 Tryd.underlying52 hi3 hz3 hs3 hy3 rfl w5.heap.size (by simp; omega) _ 64 _ rfl (Hap.out.litE _) (some ⟨wr.heap.size, 0, none⟩) 3 3 [natV (L / 256), natV (L / 16 % 16), natV (L % 16)] rfl (hlit wr) (by simp [natV, Value.oneCell']) (by unfold maxLen; omega) (by omega) ?_; intro v9 w9 ha9 hb9)
      have hb : Below w.heap.size w w9 := HB5.out.trans (((HBr.out.trans (((Below.refl w5.heap.size wr).alloc hszr _).trans hb9))).mono hsz5)
      have hd := Hdd.out
      obtain ⟨A9, c9, rfl, hc9, hrd9⟩ := ha9.rd
      refine bodyPost_ret (results_tmp rfl _ _ _) rfl ⟨⟨A9, c9, rfl, ?_⟩, hb⟩
      rw [hd]; exact hrd9
end Go.Proofs.YtfdhiilhjfbehaaDoor
