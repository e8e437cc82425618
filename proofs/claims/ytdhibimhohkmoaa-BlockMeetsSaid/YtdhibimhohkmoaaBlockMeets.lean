/- BlockMeets: two texts that end alike have the same blocks from a common cut on. -/
import Derived.Test.YtdhibimhohkmoaaBlockSane
import Derived.Test.YtdhibimhohkmoaaBlockLaw6
import Derived.Test.YtdhibimhohkmoaaBlockCap
import Derived.Test.YtdhibimhohkmoaaBlockRanges
import Derived.Test.YtdhibimhohkmoaaBlockRest
import Derived.Test.YtdhibimhohkmoaaAppBytes
import Derived.Test.YtdhibimhohkmoaaMix2
import Derived.Deep.CutRange
import Derived.Great.Frames
import Derived.BigQuiet
namespace Go.Proofs.Ytdhibimhohkmoaa
open Go.RowKit Go.Sort

theorem info5m : (Try.prog.info? 5).map (fun i => (i.zero, i.size, i.bytes)) = some (some (.int .u8 0), 1, 1) := by kernel_rfl
theorem one_byteV (xs : List UInt8) : ∀ u ∈ xs.map byteV, u.oneCell' = true := by
  intro u hu
  obtain ⟨b, _, rfl⟩ := List.mem_map.1 hu
  rfl

set_option maxRecDepth 100000 in
set_option maxHeartbeats 8000000 in
theorem Meets_any (A A' : Option Addr) (len len' cap cap' : Nat) (xa xb : List UInt8) (E : Option Addr) (lenE capE : Nat) (xe : List UInt8) (x y : UInt8) (w : World) (hr : Rd w 1 A len (xa.map byteV)) (hr' : Rd w 1 A' len' (xb.map byteV)) (hcap : len ≤ cap) (hcap' : len' ≤ cap') (hrE : Rd w 1 E lenE (xe.map byteV)) (hcapE : lenE ≤ capE) :
    Calls Try.prog 7 #[.agg #[.slice A len cap, .slice A' len' cap'], .slice E lenE capE, .agg #[.int .u8 (x.toNat : Int), .int .u8 (y.toNat : Int)]] w fun e w' => e = .returned (.bool true) ∧ Below w.heap.size w w' := by
  obtain ⟨i0, hi0, hz0, hz1, hz2⟩ := info_parts info5m
  have hl := hr.le
  have hl' := hr'.le
  have hlE := hrE.le
  have hlo : 4 ≤ 4 + x.toNat % 8 := by omega
  have hlh : 4 + x.toNat % 8 ≤ 4 + x.toNat % 8 + y.toNat % 16 := by omega
  have hhi : 4 + x.toNat % 8 + y.toNat % 16 ≤ 4096 := by omega
  have hM := fun W => Made_any x y W
  generalize 4 + x.toNat % 8 = lo at *
  generalize lo + y.toNat % 16 = hi at *
  go_enter Try.func7, Try.ntmps7
  go_wp2_with fail
  have cA := (Blk.new w 40 #[.slice A len cap, .slice A' len' cap']).alloc (.cells #[.int .u8 (x.toNat : Int), .int .u8 (y.toNat : Int)] 45)
  have cB := Blk.new (w.alloc (.cells #[.slice A len cap, .slice A' len' cap'] 40)) 45 #[.int .u8 (x.toNat : Int), .int .u8 (y.toNat : Int)]
  have B0 : Below w.heap.size w ((w.alloc (.cells #[.slice A len cap, .slice A' len' cap'] 40)).alloc (.cells #[.int .u8 (x.toNat : Int), .int .u8 (y.toNat : Int)] 45)) := ((Below.refl _ w).alloc (Nat.le_refl _) _).alloc (by simp) _
  refine (sanity_any _).mono ?_
  rintro e w1 ⟨rfl, hb1⟩
  have cA := cA.below hb1 cA.lt
  have cB := cB.below hb1 cB.lt
  have B1 := B0.trans (hb1.mono B0.size)
  have c0 := cB.cell 0
  have c1 := cB.cell 1
  simp only [List.getElem?_toArray, List.getElem?_cons_zero, List.getElem?_cons_succ, World.size_alloc] at c0 c1
  clear cB B0 hb1
  go_wp2_with fail
  refine (hM _).mono ?_
  rintro e w2 ⟨rfl, hb2⟩
  have B2 := B1.trans (hb2.mono B1.size)
  have cA := cA.below hb2 cA.lt
  clear B1 hb2 c0 c1 hM
  have hb3 : Below w2.heap.size w2 (w2.alloc (.cells #[.int .i64 lo, .int .i64 hi] 27)) := (Below.refl _ _).alloc (Nat.le_refl _) _
  have cA3 := cA.below hb3 cA.lt
  have a0 := cA3.cell 0
  have a1 := cA3.cell 1
  simp only [List.getElem?_toArray, List.getElem?_cons_zero, List.getElem?_cons_succ] at a0 a1
  by_cases hbig : 100 < len ∨ 100 < len' ∨ 200 < lenE
  · have B3 := B2.alloc B2.size (.cells #[.int .i64 lo, .int .i64 hi] 27)
    by_cases hbig1 : 100 < len
    · go_wp2_with fail
      go_ret
      exact ⟨rfl, B3⟩
    · by_cases hbig2 : 100 < len'
      · go_wp2_with fail
        go_ret
        exact ⟨rfl, B3⟩
      · have hbig3 : 200 < lenE := by omega
        clear hbig
        go_wp2_with fail
        go_ret
        exact ⟨rfl, B3⟩
  have s1 : len ≤ 100 := by omega
  have s2 : len' ≤ 100 := by omega
  have s3 : lenE ≤ 200 := by omega
  clear hbig
  go_upto_region 5 with fail
  have cL := Blk.new w2 27 #[.int .i64 lo, .int .i64 hi]
  have B3 := B2.trans (hb3.mono B2.size)
  have hr3 := hr.below B3
  have hr3' := hr'.below B3
  have hrE3 := hrE.below B3
  have hcl := cL.lt
  have hca := cA3.lt
  obtain ⟨w3, hw3⟩ : ∃ w3, w2.alloc (.cells #[.int .i64 lo, .int .i64 hi] 27) = w3 := ⟨_, rfl⟩
  rw [hw3] at hb3 cA3 a0 a1 cL B3 hr3 hr3' hrE3 hcl hca ⊢
  clear hw3 hb3 cA B2 hr hr' hrE
  go_cut [9, 10] from 37 to 48 (fun t9 t10 wx => ∃ (A9 A10 : Option Addr) (c9 c10 : Nat), t9 = .slice A9 (len + lenE) c9 ∧ t10 = .slice A10 (len' + lenE) c10 ∧ Rd wx 1 A9 (len + lenE) ((xa ++ xe).map byteV) ∧ Rd wx 1 A10 (len' + lenE) ((xb ++ xe).map byteV) ∧ Below w3.heap.size w3 wx)
  case first =>
    have k0 := cell_regrown a0
    have k1 := cell_regrown a1
    refine wp_region_reads [1, 2, 4, 7, 8, 10] 8 (by kernel_rfl) (by kernel_rfl) (fun _ _ d _ _ h => by cases d <;> exact h) (by kernel_rfl) (by kernel_rfl) (by kernel_rfl) ?_
    simp only [pickOps, Ext, List.getElem?_cons_zero, List.getElem?_cons_succ]
    repeat (go_big_quiet_step (fail))
    refine wpQuiet_nil ?_
    refine wpAnyH_abs ?_
    intro F hF
    have e39 : F.eval (.tmp 39) = .slice A len cap := by rw [hF]; rfl
    have e41 : F.eval (.tmp 41) = .slice E lenE capE := by rw [hF]; rfl
    have e45 : F.eval (.tmp 45) = .slice A' len' cap' := by rw [hF]; rfl
    have e47 : F.eval (.tmp 47) = .slice E lenE capE := by rw [hF]; rfl
    have hsz : F.tmps.size = 124 := by rw [hF]; rfl
    have B : Below w3.heap.size w3 w3.drew := (Below.refl _ w3).drew
    have hbs : ∀ W, (Instr.buildSlice 22 0 #[]).run Try.prog W = .ok (.slice (some ⟨W.heap.size, 0, none⟩) 0 0) (W.alloc (.cells #[] 5)) := fun W => by kernel_rfl
    have hoa := one_byteV xa
    have hob := one_byteV xb
    have hoe := one_byteV xe
    clear k0 k1
    refine wpAnyH_two (i := 0) (j := 6) (by kernel_rfl) rfl rfl ?_ ?_
    · intro K hK
      refine step_empty rfl 22 5 rfl (hbs _) ?_
      have B1 := B.alloc B.size (.cells #[] 5)
      refine hK _ _ (ext_of B1) ?_
      clear hK K B
      have B := B1
      clear B1
      refine wpAnyH_two (i := 3) (j := 6) (by kernel_rfl) rfl rfl ?_ ?_
      · intro K hK
        refine step_app rfl (.tmp 37) (.tmp 39) 22 rfl 5 i0 (.int .u8 0) 1 Try.underlying22 hi0 hz0 hz1 hz2 rfl w3.heap.size B.size _ 0 [] (Act.eval_put_same _ 37 _ (by simp only [Act.size_put, hsz]; omega)) (.inl ⟨rfl, rfl, _, rfl⟩) A len cap (xa.map byteV) ((Act.eval_put_ne _ 37 39 _ (by decide)).trans e39) (hr3.below B) hoa (by unfold maxLen; omega) (by omega) ?_
        intro v40 w40 h40 hb40
        have B1 := B.trans hb40
        refine hK _ _ (ext_of B1) ?_
        clear hK K B
        have B := B1
        clear B1
        refine wpAnyH_two (i := 5) (j := 6) (by kernel_rfl) rfl rfl ?_ ?_
        · intro K hK
          refine step_app rfl (.tmp 40) (.tmp 41) 22 rfl 5 i0 (.int .u8 0) 1 Try.underlying22 hi0 hz0 hz1 hz2 rfl w3.heap.size B.size _ _ _ (Act.eval_put_same _ 40 _ (by simp only [Act.size_put, hsz]; omega)) h40 E lenE capE (xe.map byteV) ((Act.eval_put_ne _ 40 41 _ (by decide)).trans ((Act.eval_put_ne _ 37 41 _ (by decide)).trans e41)) (hrE3.below B) hoe (by unfold maxLen; omega) (by omega) ?_
          intro v42 w42 h42 hb42
          have B1 := B.trans hb42
          obtain ⟨A42, c42, rfl, hc42, rd42⟩ := h42.rd
          refine hK _ _ (ext_of B1) ?_
          clear hK K B
          have B := B1
          clear B1
          refine wpAnyH_one (i := 6) (by kernel_rfl) rfl ?_
          intro K hK
          refine step_empty rfl 22 5 rfl (hbs _) ?_
          have B1 := B.alloc B.size (.cells #[] 5)
          have rd42 := rd42.alloc (.cells #[] 5)
          refine hK _ _ (ext_of B1) ?_
          clear hK K B
          have B := B1
          clear B1
          refine wpAnyH_one (i := 9) (by kernel_rfl) rfl ?_
          intro K hK
          refine step_app rfl (.tmp 43) (.tmp 45) 22 rfl 5 i0 (.int .u8 0) 1 Try.underlying22 hi0 hz0 hz1 hz2 rfl _ (Nat.le_refl _) _ 0 [] (Act.eval_put_same _ 43 _ (by simp only [Act.size_put, hsz]; omega)) (.inl ⟨rfl, rfl, _, rfl⟩) A' len' cap' (xb.map byteV) ((Act.eval_put_ne _ 43 45 _ (by decide)).trans ((Act.eval_put_ne _ 42 45 _ (by decide)).trans ((Act.eval_put_ne _ 40 45 _ (by decide)).trans ((Act.eval_put_ne _ 37 45 _ (by decide)).trans e45)))) (hr3'.below B) hob (by unfold maxLen; omega) (by omega) ?_
          intro v46 w46 h46 hb46
          have B1 := B.trans (hb46.mono B.size)
          have hB46 := B.size
          refine hK _ _ (ext_of B1) ?_
          clear hK K B
          have B := B1
          clear B1
          refine wpAnyH_one (i := 11) (by kernel_rfl) rfl ?_
          intro K hK
          refine step_app rfl (.tmp 46) (.tmp 47) 22 rfl 5 i0 (.int .u8 0) 1 Try.underlying22 hi0 hz0 hz1 hz2 rfl _ hb46.size _ _ _ (Act.eval_put_same _ 46 _ (by simp only [Act.size_put, hsz]; omega)) h46 E lenE capE (xe.map byteV) ((Act.eval_put_ne _ 46 47 _ (by decide)).trans ((Act.eval_put_ne _ 43 47 _ (by decide)).trans ((Act.eval_put_ne _ 42 47 _ (by decide)).trans ((Act.eval_put_ne _ 40 47 _ (by decide)).trans ((Act.eval_put_ne _ 37 47 _ (by decide)).trans e47))))) (hrE3.below B) hoe (by unfold maxLen; omega) (by omega) ?_
          intro v48 w48 h48 hb48
          have B1 := B.trans (hb48.mono hB46)
          obtain ⟨A48, c48, rfl, hc48, rd48⟩ := h48.rd
          have rd42 := rd42.below (hb46.trans hb48)
          refine hK _ _ (ext_of B1) ?_
          clear hK K B
          have B := B1
          clear B1
          rw [hF]
          simp only [Act.put, List.setIfInBounds_toArray, List.set_cons_succ, List.set_cons_zero]
          refine wpAnyH_rest (C := Ext _) (is := [12, 13]) (by kernel_rfl) (by kernel_rfl) (by kernel_rfl) (fun w' h' => ext_trans (ext_of B) h') (ext_refl _) ?_
          simp only [pickOps, Ext, List.getElem?_cons_zero, List.getElem?_cons_succ]
          repeat (go_big_quiet_step (fail))
          refine wpQuiet_nil ?_
          intro wz hwz
          have hgz := ext_below hwz
          clear hwz
          go_wp2_with fail
          go_meet
          refine ⟨A42, A48, c42, c48, by rw [Nat.zero_add], by rw [Nat.zero_add], ?_, ?_, B.trans (hgz.mono B.size)⟩
          · have := rd42.below hgz
            simpa [List.map_append] using this
          · have := rd48.below hgz
            simpa [List.map_append] using this
        · intro K hK
          refine step_empty rfl 22 5 rfl (hbs _) ?_
          have B1 := B.alloc B.size (.cells #[] 5)
          have h40 := h40.below ((Below.refl _ _).alloc (Nat.le_refl _) (.cells #[] 5)) (Nat.le_refl _)
          refine hK _ _ (ext_of B1) ?_
          clear hK K B
          have B := B1
          clear B1
          refine wpAnyH_one (i := 5) (by kernel_rfl) rfl ?_
          intro K hK
          refine step_app rfl (.tmp 40) (.tmp 41) 22 rfl 5 i0 (.int .u8 0) 1 Try.underlying22 hi0 hz0 hz1 hz2 rfl w3.heap.size B.size _ _ _ ((Act.eval_put_ne _ 43 40 _ (by decide)).trans (Act.eval_put_same _ 40 _ (by simp only [Act.size_put, hsz]; omega))) h40 E lenE capE (xe.map byteV) ((Act.eval_put_ne _ 43 41 _ (by decide)).trans ((Act.eval_put_ne _ 40 41 _ (by decide)).trans ((Act.eval_put_ne _ 37 41 _ (by decide)).trans e41))) (hrE3.below B) hoe (by unfold maxLen; omega) (by omega) ?_
          intro v42 w42 h42 hb42
          have B1 := B.trans hb42
          obtain ⟨A42, c42, rfl, hc42, rd42⟩ := h42.rd
          refine hK _ _ (ext_of B1) ?_
          clear hK K B
          have B := B1
          clear B1
          refine wpAnyH_one (i := 9) (by kernel_rfl) rfl ?_
          intro K hK
          refine step_app rfl (.tmp 43) (.tmp 45) 22 rfl 5 i0 (.int .u8 0) 1 Try.underlying22 hi0 hz0 hz1 hz2 rfl _ (Nat.le_refl _) _ 0 [] ((Act.eval_put_ne _ 42 43 _ (by decide)).trans (Act.eval_put_same _ 43 _ (by simp only [Act.size_put, hsz]; omega))) (.inl ⟨rfl, rfl, _, rfl⟩) A' len' cap' (xb.map byteV) ((Act.eval_put_ne _ 42 45 _ (by decide)).trans ((Act.eval_put_ne _ 43 45 _ (by decide)).trans ((Act.eval_put_ne _ 40 45 _ (by decide)).trans ((Act.eval_put_ne _ 37 45 _ (by decide)).trans e45)))) (hr3'.below B) hob (by unfold maxLen; omega) (by omega) ?_
          intro v46 w46 h46 hb46
          have B1 := B.trans (hb46.mono B.size)
          have hB46 := B.size
          refine hK _ _ (ext_of B1) ?_
          clear hK K B
          have B := B1
          clear B1
          refine wpAnyH_one (i := 11) (by kernel_rfl) rfl ?_
          intro K hK
          refine step_app rfl (.tmp 46) (.tmp 47) 22 rfl 5 i0 (.int .u8 0) 1 Try.underlying22 hi0 hz0 hz1 hz2 rfl _ hb46.size _ _ _ (Act.eval_put_same _ 46 _ (by simp only [Act.size_put, hsz]; omega)) h46 E lenE capE (xe.map byteV) ((Act.eval_put_ne _ 46 47 _ (by decide)).trans ((Act.eval_put_ne _ 42 47 _ (by decide)).trans ((Act.eval_put_ne _ 43 47 _ (by decide)).trans ((Act.eval_put_ne _ 40 47 _ (by decide)).trans ((Act.eval_put_ne _ 37 47 _ (by decide)).trans e47))))) (hrE3.below B) hoe (by unfold maxLen; omega) (by omega) ?_
          intro v48 w48 h48 hb48
          have B1 := B.trans (hb48.mono hB46)
          obtain ⟨A48, c48, rfl, hc48, rd48⟩ := h48.rd
          have rd42 := rd42.below (hb46.trans hb48)
          refine hK _ _ (ext_of B1) ?_
          clear hK K B
          have B := B1
          clear B1
          rw [hF]
          simp only [Act.put, List.setIfInBounds_toArray, List.set_cons_succ, List.set_cons_zero]
          refine wpAnyH_rest (C := Ext _) (is := [12, 13]) (by kernel_rfl) (by kernel_rfl) (by kernel_rfl) (fun w' h' => ext_trans (ext_of B) h') (ext_refl _) ?_
          simp only [pickOps, Ext, List.getElem?_cons_zero, List.getElem?_cons_succ]
          repeat (go_big_quiet_step (fail))
          refine wpQuiet_nil ?_
          intro wz hwz
          have hgz := ext_below hwz
          clear hwz
          go_wp2_with fail
          go_meet
          refine ⟨A42, A48, c42, c48, by rw [Nat.zero_add], by rw [Nat.zero_add], ?_, ?_, B.trans (hgz.mono B.size)⟩
          · have := rd42.below hgz
            simpa [List.map_append] using this
          · have := rd48.below hgz
            simpa [List.map_append] using this
      · intro K hK
        refine step_empty rfl 22 5 rfl (hbs _) ?_
        have B1 := B.alloc B.size (.cells #[] 5)
        refine hK _ _ (ext_of B1) ?_
        clear hK K B
        have B := B1
        clear B1
        refine wpAnyH_one (i := 3) (by kernel_rfl) rfl ?_
        intro K hK
        refine step_app rfl (.tmp 37) (.tmp 39) 22 rfl 5 i0 (.int .u8 0) 1 Try.underlying22 hi0 hz0 hz1 hz2 rfl w3.heap.size B.size _ 0 [] ((Act.eval_put_ne _ 43 37 _ (by decide)).trans (Act.eval_put_same _ 37 _ (by simp only [Act.size_put, hsz]; omega))) (.inl ⟨rfl, rfl, _, rfl⟩) A len cap (xa.map byteV) ((Act.eval_put_ne _ 43 39 _ (by decide)).trans ((Act.eval_put_ne _ 37 39 _ (by decide)).trans e39)) (hr3.below B) hoa (by unfold maxLen; omega) (by omega) ?_
        intro v40 w40 h40 hb40
        have B1 := B.trans hb40
        refine hK _ _ (ext_of B1) ?_
        clear hK K B
        have B := B1
        clear B1
        refine wpAnyH_one (i := 5) (by kernel_rfl) rfl ?_
        intro K hK
        refine step_app rfl (.tmp 40) (.tmp 41) 22 rfl 5 i0 (.int .u8 0) 1 Try.underlying22 hi0 hz0 hz1 hz2 rfl w3.heap.size B.size _ _ _ (Act.eval_put_same _ 40 _ (by simp only [Act.size_put, hsz]; omega)) h40 E lenE capE (xe.map byteV) ((Act.eval_put_ne _ 40 41 _ (by decide)).trans ((Act.eval_put_ne _ 43 41 _ (by decide)).trans ((Act.eval_put_ne _ 37 41 _ (by decide)).trans e41))) (hrE3.below B) hoe (by unfold maxLen; omega) (by omega) ?_
        intro v42 w42 h42 hb42
        have B1 := B.trans hb42
        obtain ⟨A42, c42, rfl, hc42, rd42⟩ := h42.rd
        refine hK _ _ (ext_of B1) ?_
        clear hK K B
        have B := B1
        clear B1
        refine wpAnyH_one (i := 9) (by kernel_rfl) rfl ?_
        intro K hK
        refine step_app rfl (.tmp 43) (.tmp 45) 22 rfl 5 i0 (.int .u8 0) 1 Try.underlying22 hi0 hz0 hz1 hz2 rfl _ (Nat.le_refl _) _ 0 [] ((Act.eval_put_ne _ 42 43 _ (by decide)).trans ((Act.eval_put_ne _ 40 43 _ (by decide)).trans (Act.eval_put_same _ 43 _ (by simp only [Act.size_put, hsz]; omega)))) (.inl ⟨rfl, rfl, _, rfl⟩) A' len' cap' (xb.map byteV) ((Act.eval_put_ne _ 42 45 _ (by decide)).trans ((Act.eval_put_ne _ 40 45 _ (by decide)).trans ((Act.eval_put_ne _ 43 45 _ (by decide)).trans ((Act.eval_put_ne _ 37 45 _ (by decide)).trans e45)))) (hr3'.below B) hob (by unfold maxLen; omega) (by omega) ?_
        intro v46 w46 h46 hb46
        have B1 := B.trans (hb46.mono B.size)
        have hB46 := B.size
        refine hK _ _ (ext_of B1) ?_
        clear hK K B
        have B := B1
        clear B1
        refine wpAnyH_one (i := 11) (by kernel_rfl) rfl ?_
        intro K hK
        refine step_app rfl (.tmp 46) (.tmp 47) 22 rfl 5 i0 (.int .u8 0) 1 Try.underlying22 hi0 hz0 hz1 hz2 rfl _ hb46.size _ _ _ (Act.eval_put_same _ 46 _ (by simp only [Act.size_put, hsz]; omega)) h46 E lenE capE (xe.map byteV) ((Act.eval_put_ne _ 46 47 _ (by decide)).trans ((Act.eval_put_ne _ 42 47 _ (by decide)).trans ((Act.eval_put_ne _ 40 47 _ (by decide)).trans ((Act.eval_put_ne _ 43 47 _ (by decide)).trans ((Act.eval_put_ne _ 37 47 _ (by decide)).trans e47))))) (hrE3.below B) hoe (by unfold maxLen; omega) (by omega) ?_
        intro v48 w48 h48 hb48
        have B1 := B.trans (hb48.mono hB46)
        obtain ⟨A48, c48, rfl, hc48, rd48⟩ := h48.rd
        have rd42 := rd42.below (hb46.trans hb48)
        refine hK _ _ (ext_of B1) ?_
        clear hK K B
        have B := B1
        clear B1
        rw [hF]
        simp only [Act.put, List.setIfInBounds_toArray, List.set_cons_succ, List.set_cons_zero]
        refine wpAnyH_rest (C := Ext _) (is := [12, 13]) (by kernel_rfl) (by kernel_rfl) (by kernel_rfl) (fun w' h' => ext_trans (ext_of B) h') (ext_refl _) ?_
        simp only [pickOps, Ext, List.getElem?_cons_zero, List.getElem?_cons_succ]
        repeat (go_big_quiet_step (fail))
        refine wpQuiet_nil ?_
        intro wz hwz
        have hgz := ext_below hwz
        clear hwz
        go_wp2_with fail
        go_meet
        refine ⟨A42, A48, c42, c48, by rw [Nat.zero_add], by rw [Nat.zero_add], ?_, ?_, B.trans (hgz.mono B.size)⟩
        · have := rd42.below hgz
          simpa [List.map_append] using this
        · have := rd48.below hgz
          simpa [List.map_append] using this
    · intro K hK
      refine step_empty rfl 22 5 rfl (hbs _) ?_
      have B1 := B.alloc B.size (.cells #[] 5)
      refine hK _ _ (ext_of B1) ?_
      clear hK K B
      have B := B1
      clear B1
      refine wpAnyH_one (i := 0) (by kernel_rfl) rfl ?_
      intro K hK
      refine step_empty rfl 22 5 rfl (hbs _) ?_
      have B1 := B.alloc B.size (.cells #[] 5)
      refine hK _ _ (ext_of B1) ?_
      clear hK K B
      have B := B1
      clear B1
      refine wpAnyH_one (i := 3) (by kernel_rfl) rfl ?_
      intro K hK
      refine step_app rfl (.tmp 37) (.tmp 39) 22 rfl 5 i0 (.int .u8 0) 1 Try.underlying22 hi0 hz0 hz1 hz2 rfl w3.heap.size B.size _ 0 [] (Act.eval_put_same _ 37 _ (by simp only [Act.size_put, hsz]; omega)) (.inl ⟨rfl, rfl, _, rfl⟩) A len cap (xa.map byteV) ((Act.eval_put_ne _ 37 39 _ (by decide)).trans ((Act.eval_put_ne _ 43 39 _ (by decide)).trans e39)) (hr3.below B) hoa (by unfold maxLen; omega) (by omega) ?_
      intro v40 w40 h40 hb40
      have B1 := B.trans hb40
      refine hK _ _ (ext_of B1) ?_
      clear hK K B
      have B := B1
      clear B1
      refine wpAnyH_one (i := 5) (by kernel_rfl) rfl ?_
      intro K hK
      refine step_app rfl (.tmp 40) (.tmp 41) 22 rfl 5 i0 (.int .u8 0) 1 Try.underlying22 hi0 hz0 hz1 hz2 rfl w3.heap.size B.size _ _ _ (Act.eval_put_same _ 40 _ (by simp only [Act.size_put, hsz]; omega)) h40 E lenE capE (xe.map byteV) ((Act.eval_put_ne _ 40 41 _ (by decide)).trans ((Act.eval_put_ne _ 37 41 _ (by decide)).trans ((Act.eval_put_ne _ 43 41 _ (by decide)).trans e41))) (hrE3.below B) hoe (by unfold maxLen; omega) (by omega) ?_
      intro v42 w42 h42 hb42
      have B1 := B.trans hb42
      obtain ⟨A42, c42, rfl, hc42, rd42⟩ := h42.rd
      refine hK _ _ (ext_of B1) ?_
      clear hK K B
      have B := B1
      clear B1
      refine wpAnyH_one (i := 9) (by kernel_rfl) rfl ?_
      intro K hK
      refine step_app rfl (.tmp 43) (.tmp 45) 22 rfl 5 i0 (.int .u8 0) 1 Try.underlying22 hi0 hz0 hz1 hz2 rfl _ (Nat.le_refl _) _ 0 [] ((Act.eval_put_ne _ 42 43 _ (by decide)).trans ((Act.eval_put_ne _ 40 43 _ (by decide)).trans ((Act.eval_put_ne _ 37 43 _ (by decide)).trans (Act.eval_put_same _ 43 _ (by simp only [Act.size_put, hsz]; omega))))) (.inl ⟨rfl, rfl, _, rfl⟩) A' len' cap' (xb.map byteV) ((Act.eval_put_ne _ 42 45 _ (by decide)).trans ((Act.eval_put_ne _ 40 45 _ (by decide)).trans ((Act.eval_put_ne _ 37 45 _ (by decide)).trans ((Act.eval_put_ne _ 43 45 _ (by decide)).trans e45)))) (hr3'.below B) hob (by unfold maxLen; omega) (by omega) ?_
      intro v46 w46 h46 hb46
      have B1 := B.trans (hb46.mono B.size)
      have hB46 := B.size
      refine hK _ _ (ext_of B1) ?_
      clear hK K B
      have B := B1
      clear B1
      refine wpAnyH_one (i := 11) (by kernel_rfl) rfl ?_
      intro K hK
      refine step_app rfl (.tmp 46) (.tmp 47) 22 rfl 5 i0 (.int .u8 0) 1 Try.underlying22 hi0 hz0 hz1 hz2 rfl _ hb46.size _ _ _ (Act.eval_put_same _ 46 _ (by simp only [Act.size_put, hsz]; omega)) h46 E lenE capE (xe.map byteV) ((Act.eval_put_ne _ 46 47 _ (by decide)).trans ((Act.eval_put_ne _ 42 47 _ (by decide)).trans ((Act.eval_put_ne _ 40 47 _ (by decide)).trans ((Act.eval_put_ne _ 37 47 _ (by decide)).trans ((Act.eval_put_ne _ 43 47 _ (by decide)).trans e47))))) (hrE3.below B) hoe (by unfold maxLen; omega) (by omega) ?_
      intro v48 w48 h48 hb48
      have B1 := B.trans (hb48.mono hB46)
      obtain ⟨A48, c48, rfl, hc48, rd48⟩ := h48.rd
      have rd42 := rd42.below (hb46.trans hb48)
      refine hK _ _ (ext_of B1) ?_
      clear hK K B
      have B := B1
      clear B1
      rw [hF]
      simp only [Act.put, List.setIfInBounds_toArray, List.set_cons_succ, List.set_cons_zero]
      refine wpAnyH_rest (C := Ext _) (is := [12, 13]) (by kernel_rfl) (by kernel_rfl) (by kernel_rfl) (fun w' h' => ext_trans (ext_of B) h') (ext_refl _) ?_
      simp only [pickOps, Ext, List.getElem?_cons_zero, List.getElem?_cons_succ]
      repeat (go_big_quiet_step (fail))
      refine wpQuiet_nil ?_
      intro wz hwz
      have hgz := ext_below hwz
      clear hwz
      go_wp2_with fail
      go_meet
      refine ⟨A42, A48, c42, c48, by rw [Nat.zero_add], by rw [Nat.zero_add], ?_, ?_, B.trans (hgz.mono B.size)⟩
      · have := rd42.below hgz
        simpa [List.map_append] using this
      · have := rd48.below hgz
        simpa [List.map_append] using this
  case rest =>
    obtain ⟨A9, A10, c9, c10, rfl, rfl, r9, r10, B5⟩ := hcut
    have cA := cA3.below B5 hca
    have cL := cL.below B5 hcl
    have c0 := cL.cell 0
    have c1 := cL.cell 1
    simp only [List.getElem?_toArray, List.getElem?_cons_zero, List.getElem?_cons_succ] at c0 c1
    have B := B3.trans (B5.mono B3.size)
    have hcl := cL.lt
    have hca := cA.lt
    clear B3 B5 a0 a1 cA3
    go_wp2_with fail
    refine (blocks_good2 A9 (len + lenE) c9 lo hi (xa ++ xe) hlo hlh hhi _ r9 (by omega)).mono ?_
    rintro e w6 ⟨A6, n6, c6, rfl, hc6, rs6, hb6⟩
    have cA := cA.below hb6 hca
    have cL := cL.below hb6 hcl
    have B6 := B.trans (hb6.mono B.size)
    have r10 := r10.below hb6
    have c0 := cL.cell 0
    have c1 := cL.cell 1
    simp only [List.getElem?_toArray, List.getElem?_cons_zero, List.getElem?_cons_succ] at c0 c1
    have hca := cA.lt
    clear B hb6
    go_wp2_with fail
    refine (blocks_good2 A10 (len' + lenE) c10 lo hi (xb ++ xe) hlo hlh hhi _ r10 (by omega)).mono ?_
    rintro e w7 ⟨A7, n7, c7, rfl, hc7, rs7, hb7⟩
    have cA := cA.below hb7 hca
    have B7 := B6.trans (hb7.mono B6.size)
    have rs6 := rs6.below hb7
    have a0 := cA.cell 0
    have a1 := cA.cell 1
    simp only [List.getElem?_toArray, List.getElem?_cons_zero, List.getElem?_cons_succ] at a0 a1
    have l6 := rs6.lenf twoV_len (by omega)
    have l7 := rs7.lenf twoV_len (by omega)
    rw [List.length_map] at l6 l7
    have lxa := hr3.len1
    have lxb := hr3'.len1
    have lxe := hrE3.len1
    have m6 := chain_length (blocks_chain (xa ++ xe) lo hi hlh (by omega))
    have m7 := chain_length (blocks_chain (xb ++ xe) lo hi hlh (by omega))
    rw [List.length_append] at m6 m7
    have hn6 : n6 ≤ 300 := by omega
    have hn7 : n7 ≤ 300 := by omega
    have q6 := blocks_in4 (xa ++ xe) lo hi
    have q7 := blocks_in4 (xb ++ xe) lo hi
    have e6 := fun i at_ r h1 h2 h3 => blocks_end xa xe lo hi i at_ r hlo h1 h2 h3
    have e7 := fun i at_ r h1 h2 h3 => blocks_end xb xe lo hi i at_ r hlo h1 h2 h3
    rw [lxa] at e6
    rw [lxb] at e7
    have Hl6 := Lib.hid l6
    have Hl7 := Lib.hid l7
    have Hq6 := Lib.hid q6
    have Hq7 := Lib.hid q7
    have He6 := Lib.hid e6
    have He7 := Lib.hid e7
    have Hxa := Lib.hid lxa
    have Hxb := Lib.hid lxb
    have Hxe := Lib.hid lxe
    clear B6 hb7 c0 c1 cL r9 r10 hr3 hr3' hrE3 l6 l7 lxa lxb lxe m6 m7 q6 q7 e6 e7 hlo hlh hhi cA hca hcl
    go_wp2_with fail
    go_loopw [15, 16, 17] (fun i k t wr => ∃ ii : Nat, ii ≤ n6 ∧ i = .int .i64 ii ∧ ∃ m, wr = w7.drewN m) (fun i _ _ _ => n6 - (intOf i).toNat)
    case atStart => exact ⟨0, Nat.zero_le _, rfl, 0, (World.drewN_zero _).symm⟩
    case round =>
      obtain ⟨i, hii, rfl, m, rfl⟩ := hrel
      by_cases hlti : i < n6
      · go_wp2
        go_loopw [16, 17] (fun k t wr => ∃ kk : Nat, kk ≤ n7 ∧ k = .int .i64 kk ∧ ∃ m, wr = w7.drewN m) (fun k _ _ => n7 - (intOf k).toNat)
        case atStart => exact ⟨0, Nat.zero_le _, rfl, m, rfl⟩
        case round =>
          obtain ⟨k, hk, rfl, m', rfl⟩ := hrel
          by_cases hltk : k < n7
          · obtain ⟨b6, o6, x6, y6, rfl, hx6, g6, _⟩ := rs6.two_ hlti
            obtain ⟨b7, o7, x7, y7, rfl, hx7, g7, _⟩ := rs7.two_ hltk
            rw [List.getElem?_map] at hx6 hx7
            obtain ⟨r6, hr6, hy6⟩ := Option.map_eq_some_iff.1 hx6
            obtain ⟨r7, hr7, hy7⟩ := Option.map_eq_some_iff.1 hx7
            cases hy6
            cases hy7
            obtain ⟨u1, u2, u3⟩ := Hq6.out r6 (List.mem_of_getElem? hr6)
            obtain ⟨v1, v2, v3⟩ := Hq7.out r7 (List.mem_of_getElem? hr7)
            rw [List.length_append, Hxa.out, Hxe.out] at u2 u3
            rw [List.length_append, Hxb.out, Hxe.out] at v2 v3
            have E6 := fun d h => He6.out i d r6 hr6 h (by rw [List.length_append, Hxa.out, Hxe.out]; omega)
            have E7 := fun d h => He7.out k d r7 hr7 h (by rw [List.length_append, Hxb.out, Hxe.out]; omega)
            obtain ⟨p, q⟩ := r6
            obtain ⟨p', q'⟩ := r7
            dsimp only at u1 u2 u3 v1 v2 v3 E6 E7
            replace g6 : w7.cell? ⟨b6, o6 + i * 2, none⟩ = some (.int .i64 (p : Int)) := g6
            replace g7 : w7.cell? ⟨b7, o7 + k * 2, none⟩ = some (.int .i64 (p' : Int)) := g7
            have H6 := Lib.hid E6
            have H7 := Lib.hid E7
            have hp : p ≤ 300 := by omega
            have hp' : p' ≤ 300 := by omega
            clear hx6 hx7 hr6 hr7 E6 E7 u1 u2 u3 v1 v2 v3
            by_cases hD : p < len
            · have t1 : decide ((p : Int) - (len : Int) < 0) = true := by simp; omega
              go_wp2
              go_quiet (fail)
              go_wp2
              go_quiet (fail)
              go_wp2
              exact ⟨⟨k + 1, by omega, by go_num, _, rfl⟩, by simp [intOf]; omega⟩
            · obtain ⟨d, rfl⟩ : ∃ d, p = len + d := ⟨p - len, by omega⟩
              replace g6 : w7.cell? ⟨b6, o6 + i * 2, none⟩ = some (.int .i64 ((len : Int) + (d : Int))) := by rw [g6]; simp
              have t1 : decide ((d : Int) < 0) = false := by simp
              by_cases hE : p' = len' + d
              · subst hE
                replace g7 : w7.cell? ⟨b7, o7 + k * 2, none⟩ = some (.int .i64 ((len' : Int) + (d : Int))) := by rw [g7]; simp
                have t2 : ((d : Int) != (len' : Int) + (d : Int) - (len' : Int)) = false := by simp; omega
                go_wp2
                go_quiet (fail)
                rw [show ((len : Int) + (d : Int) - (len : Int)) = (d : Int) from by omega]
                go_wp2
                go_quiet (fail)
                go_wp2_with fail
                have hB8 : ∀ n, Below w.heap.size w (w7.drewN n) := fun n => below_drewN B7 n
                have h78 : ∀ n, Rd (w7.drewN n) 2 (some ⟨b6, o6, none⟩) n6 (((blocks (xa ++ xe) lo hi).map natPair).flatMap twoV) := fun n => rs6.drewN n
                have h79 : ∀ n, Rd (w7.drewN n) 2 (some ⟨b7, o7, none⟩) n7 (((blocks (xb ++ xe) lo hi).map natPair).flatMap twoV) := fun n => rs7.drewN n
                have h70 : ∀ n, (w7.drewN n).cell? ⟨w.heap.size, 0, none⟩ = some (.slice A len cap) := fun n => a0
                have h71 : ∀ n, (w7.drewN n).cell? ⟨w.heap.size, 1, none⟩ = some (.slice A' len' cap') := fun n => a1
                simp only [World.drewN_drewN]
                generalize hw8 : w7.drewN _ = w8
                have B8 : Below w.heap.size w w8 := by rw [← hw8]; exact hB8 _
                have R6 : Rd w8 2 (some ⟨b6, o6, none⟩) n6 (((blocks (xa ++ xe) lo hi).map natPair).flatMap twoV) := by rw [← hw8]; exact h78 _
                have R7 : Rd w8 2 (some ⟨b7, o7, none⟩) n7 (((blocks (xb ++ xe) lo hi).map natPair).flatMap twoV) := by rw [← hw8]; exact h79 _
                have k0 := cell_regrown (show w8.cell? ⟨w.heap.size, 0, none⟩ = some (.slice A len cap) by rw [← hw8]; exact h70 _)
                have k1 := cell_regrown (show w8.cell? ⟨w.heap.size, 1, none⟩ = some (.slice A' len' cap') by rw [← hw8]; exact h71 _)
                have R6 := R6.rest2 (i := i) (by omega)
                have R7 := R7.rest2 (i := k) (by omega)
                rw [← List.map_drop] at R6 R7
                have S6 : ∀ r ∈ ((blocks (xa ++ xe) lo hi).drop i).map natPair, -1000000 ≤ r.1 ∧ r.1 ≤ 1000000 ∧ -1000000 ≤ r.2 ∧ r.2 ≤ 1000000 := fun r hr => ranges_small (xa ++ xe) lo hi (by rw [List.length_append, Hxa.out, Hxe.out]; omega) r (by rw [List.map_drop] at hr; exact List.mem_of_mem_drop hr)
                have S7 : ∀ r ∈ ((blocks (xb ++ xe) lo hi).drop k).map natPair, -1000000 ≤ r.1 ∧ r.1 ≤ 1000000 ∧ -1000000 ≤ r.2 ∧ r.2 ≤ 1000000 := fun r hr => ranges_small (xb ++ xe) lo hi (by rw [List.length_append, Hxb.out, Hxe.out]; omega) r (by rw [List.map_drop] at hr; exact List.mem_of_mem_drop hr)
                have G6 := fun W (hW : Below w8.heap.size w8 W) => Ranges_any (some ⟨b6, o6 + i * 2, none⟩) (n6 - i) (c6 - i) (-(len : Int)) _ W (R6.below hW) (by omega) (by omega) S6
                have G7 := fun W (hW : Below w8.heap.size w8 W) => Ranges_any (some ⟨b7, o7 + k * 2, none⟩) (n7 - k) (c7 - k) (-(len' : Int)) _ W (R7.below hW) (by omega) (by omega) S7
                rw [H6.out d rfl] at G6
                rw [H7.out d rfl] at G7
                have G6 := Lib.hid G6
                have G7 := Lib.hid G7
                have hs6 := fun W => run_slice_from2 (P := Try.prog) 33 48 b6 o6 n6 c6 i Try.underlying33 (by kernel_rfl) hlti hc6 W
                have hs7 := fun W => run_slice_from2 (P := Try.prog) 33 48 b7 o7 n7 c7 k Try.underlying33 (by kernel_rfl) hltk hc7 W
                clear hB8 h78 h79 h70 h71 R6 R7 S6 S7 hw8 g6 g7 t1 t2 a0 a1 rs6 rs7
                refine wp_region_mix2 [0, 1, 2, 3, 4, 5, 6, 8, 9, 10, 11, 12, 13, 14] 7 15 [16, 17, 18, 19, 20] _ _ rfl rfl (by kernel_rfl) (by kernel_rfl) (fun _ _ d _ _ h => by cases d <;> exact h) (by kernel_rfl) (by kernel_rfl) (by kernel_rfl) (by kernel_rfl) (by kernel_rfl) (by kernel_rfl) (by kernel_rfl) ?_
                simp only [pickOps, Ext, List.getElem?_cons_zero, List.getElem?_cons_succ]
                repeat (go_big_quiet_step (fail))
                refine wpQuiet_nil ?_
                intro K hK
                go_simp
                refine (G6.out _ (Below.refl _ _).drew).mono ?_
                rintro e wr1 ⟨Ar1, nr1, cr1, rfl, rr1, hbr1⟩
                have hb1w : Below w8.heap.size w8 wr1 := (Below.refl _ w8).drew.trans hbr1
                refine hK _ _ (ext_of hb1w) ?_
                clear hK K
                intro K hK
                go_simp
                refine (G7.out _ hb1w).mono ?_
                rintro e wr2 ⟨Ar2, nr2, cr2, rfl, rr2, hbr2⟩
                refine hK _ _ (ext_of hbr2) ?_
                clear hK K
                have hS : ∀ d os, Calls Try.prog 19 #[.slice Ar1 nr1 cr1, .slice Ar2 nr2 cr2] (grow (redrawn wr2 d) os) fun e w'' => e = .returned (.bool true) ∧ ∃ p : Regrown, w'' = grow (redrawn wr2 p.d) p.os := fun d os =>
                  Calls.regrown_of ((SameRanges_yes _ _ _ _ _ _ _ _ _ ((rr1.below hbr2).below (below_regrown wr2 d os)) (rr2.below (below_regrown wr2 d os)) rfl).mono fun e w'' ⟨h1, m, h2⟩ => ⟨h1, by rw [h2]; exact below_drewN (Below.refl _ _) m⟩)
                clear k0 k1 hs6 hs7
                repeat (go_big_quiet_step (exact hS _ _))
                refine wpQuiet_nil ?_
                intro wz hwz
                have hg := ext_below hwz
                clear hwz hS
                go_wp2
                go_ret
                exact ⟨rfl, B8.trans (((hb1w.trans (hbr2.mono hb1w.size)).trans (hg.mono (Nat.le_trans hb1w.size hbr2.size))).mono B8.size)⟩
              · have t2 : ((d : Int) != (p' : Int) - (len' : Int)) = true := by simp; omega
                go_wp2
                go_quiet (fail)
                rw [show ((len : Int) + (d : Int) - (len : Int)) = (d : Int) from by omega]
                go_wp2
                go_quiet (fail)
                go_wp2
                exact ⟨⟨k + 1, by omega, by go_num, _, rfl⟩, by simp [intOf]; omega⟩
          · obtain rfl : k = n7 := by omega
            go_wp2
            exact ⟨⟨i + 1, by omega, by go_num, m', rfl⟩, by simp [intOf]; omega⟩
      · obtain rfl : i = n6 := by omega
        go_wp2
        go_ret
        exact ⟨rfl, below_drewN B7 _⟩
end Go.Proofs.Ytdhibimhohkmoaa
