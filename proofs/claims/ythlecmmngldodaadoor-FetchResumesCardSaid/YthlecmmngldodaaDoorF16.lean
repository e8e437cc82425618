/- The laws of chapter 28: sanity. -/
import Derived.Test.YthlecmmngldodaaDoorF15
import Derived.Test.YthlecmmngldodaaDoorH11
import Derived.Deep.CutRange
namespace Go.Proofs.YthlecmmngldodaaDoor
open Go.RowKit Go.Sort

theorem mkBytes (w : World) (k : Nat) (hk : k ≤ 1000000) : (Instr.makeSlice 22 (.int .i64 (k : Int)) (.int .i64 (k : Int))).run Tryd.prog w = .ok (.slice (some ⟨w.heap.size, 0, none⟩) k k) (w.alloc (.cells ((List.replicate k (0 : UInt8)).map byteV).toArray 5)) := by
  obtain ⟨i0, hi0, hz0, hz1, hz2⟩ := info_parts info5
  rw [run_makeSlice w 22 5 i0 (.int .u8 0) Tryd.underlying22 hi0 hz0 .i64 .i64 (k : Int) (k : Int) (by omega) (Int.le_refl _) (by rw [hz1]; omega) (by rw [hz2]; omega) (by omega)]
  rw [Int.toNat_natCast, hz1, Nat.mul_one, List.map_replicate]
  rw [show (Value.int .u8 0).cells = #[byteV 0] from rfl, made_one]
theorem mkBytes_rd (w : World) (k : Nat) (hk : k ≤ 1000000) : Rd (w.alloc (.cells ((List.replicate k (0 : UInt8)).map byteV).toArray 5)) 1 (some ⟨w.heap.size, 0, none⟩) k ((List.replicate k (0 : UInt8)).map byteV) := by
  have := Blk.rd (Blk.new w 5 ((List.replicate k (0 : UInt8)).map byteV).toArray) (by simp; omega)
  rwa [List.length_map, List.length_replicate] at this
set_option maxRecDepth 100000 in
theorem builtRel0 : Tryd.prog.built 41 [] = some (relC 0 0 0 0 z32).toArray := by kernel_rfl
set_option maxRecDepth 100000 in
theorem builtRelN (n : Int) : Tryd.prog.built 41 [(5, .int .i64 n)] = some (relC 0 0 0 n z32).toArray := by kernel_rfl
/-- A row is built of one part. -/
theorem wpList_buildOne {P : Program} {ops : Array Oper} {rest : List Oper} {o : Oper} {a : Act} {w : World} {Q : Exit → Act → World → Prop} (hg : o.guard = none) (t : TypeId) (i : Nat) (x : Operand) (ho : o.op = .build t #[(i, x)]) (vx : Value) (hx : a.eval x = vx) (Z : Array Value) (hZ : P.built t [(i, vx)] = some Z)
    (h : wpList P ops Q rest (a.put o.dst (.agg Z)) w) : wpList P ops Q (o :: rest) a w := by
  refine wpList_plain hg fun K hK => ?_
  unfold Oper.wp execOp
  simp only [ho, Sem.run_bind]
  rw [show (Array.map (fun (x : Nat × Operand) => (x.fst, a.eval x.snd)) #[(i, x)]) = #[(i, vx)] from by simp [hx], run_build w t _ Z hZ]
  exact hK _ _ h
section
variable {P : Program} {ops : Array Oper} {Q : Exit → Act → World → Prop} {o : Oper} {a : Act} {w : World} {K : Act → World → Prop} {E : Prop}
/-- 'make([]T, ..)'. -/
theorem step_mk (hg : o.guard = none) (t : TypeId) (x y : Operand) (ho : o.op = .makeSlice t x y) (vx vy : Value) (hx : a.eval x = vx) (hy : a.eval y = vy) (r : Value) (W' : World) (hr : (Instr.makeSlice t vx vy).run P w = .ok r W')
    (h : K (a.put o.dst r) W') : if Region.wanted o (yielded ops a.tmps) = true then Oper.wp P o a w K Q else E := by
  have hw : Region.wanted o (yielded ops a.tmps) = true := by simp [Region.wanted, hg]
  rw [if_pos hw]
  subst hx hy
  unfold Oper.wp execOp
  simp only [ho, Sem.run_bind, Sem.run_pure, hr, Result.andThen_ok]
  exact h
end
theorem takeE_bad {tr : Sum32} {h : List (List UInt8)} {i : Int} {d : List UInt8} {p : List Sum32} (hb : i < 0 ∨ (h.length : Int) ≤ i ∨ properB d.length i h.length = false) : takeE tr h i d p = 280 := by
  unfold takeE; rw [if_pos hb]
theorem takeE_ok {tr : Sum32} {h : List (List UInt8)} {i : Nat} {d : List UInt8} {p : List Sum32} (hi : i < h.length) (hp : properB d.length i h.length = true) : takeE tr h i d p = if chkL h.length i (leafS d) p = some tr then 0 else 150 := by
  unfold takeE
  rw [if_neg (by rw [hp]; rintro (h | h | h) <;> first | omega | cases h), Int.toNat_natCast]

theorem takeE_none : takeE z32 (List.replicate 2 []) 1 (List.replicate 1 0) [] = 150 := by
  rw [show (1 : Int) = ((1 : Nat) : Int) from rfl, takeE_ok (by decide) (by decide), List.length_replicate, chkL_nil 2 1 _ (by omega) (by decide)]
  rfl
set_option maxRecDepth 100000 in
set_option maxHeartbeats 4000000 in
theorem Sanity_any (w : World) (hg : Globs w) : Calls Tryd.prog 11 #[] w fun e w' => e = .returned (.bool true) ∧ Below w.heap.size w w' := by
  obtain ⟨i35, hi35, hz35, hs35, hy35⟩ := info_parts info35
  obtain ⟨d35, hd35, hrow35⟩ := und35
  go_enter Tryd.func11, Tryd.ntmps11
  have hmk : ∀ w, (Instr.makeSlice 22 (.int .i64 1025) (.int .i64 1025)).run Tryd.prog w = .ok (.slice (some ⟨w.heap.size, 0, none⟩) 1025 1025) (w.alloc (.cells ((List.replicate 1025 (0 : UInt8)).map byteV).toArray 5)) := fun w => mkBytes w 1025 (by omega)
  obtain ⟨wa, hwa⟩ : ∃ wa, wa = w.alloc (.cells ((List.replicate 1025 (0 : UInt8)).map byteV).toArray 5) := ⟨_, rfl⟩
  have hba : Below w.heap.size w wa := by rw [hwa]; exact (Below.refl _ _).alloc (Nat.le_refl _) _
  obtain ⟨bs, hbs⟩ : ∃ bs, bs = List.replicate 1025 (0 : UInt8) := ⟨_, rfl⟩
  have hbl : bs.length = 1025 := by rw [hbs]; simp
  have hca := Cut_any (some ⟨w.heap.size, 0, none⟩) 1025 1025 bs wa (by rw [hwa, hbs]; exact mkBytes_rd w 1025 (by omega)) (by omega) (by omega) (by omega)
  rw [show (1025 + 1023) / 1024 = 2 from rfl] at hca
  have hmk2 := hmk w
  rw [← hwa] at hmk2
  clear hmk hwa hbs
  have Hba := Lib.hid hba
  have Hca := Lib.hid hca
  have Hg := Lib.hid hg
  have Hbl := Lib.hid hbl
  clear hba hca hg hbl
  go_upto_region 2 with fail
  refine Hca.out.mono ?_
  rintro e w1 ⟨A1, c1, rfl, _, hL1, hb1⟩
  have HB1 := Lib.hid (Hba.out.trans (hb1.mono Hba.out.size))
  have HL1 := Lib.hid hL1
  have hcn := Cut_bad none 0 0 w1 (by omega) (.inl rfl)
  rw [if_pos rfl] at hcn
  have Hcn := Lib.hid hcn
  clear hb1 hL1 hcn hmk2 Hca Hba
  go_upto_region 3 with fail
  refine Hcn.out.mono ?_
  rintro e w2 ⟨rfl, hw2⟩
  subst hw2
  have Hn0 := Lib.hid (New_bad (relC 0 0 0 0 z32) 0 (relC_n 0 0 0 0 z32) (.inl (by omega)) w2)
  clear Hcn
  go_upto_region 4 with (refine wpList_build0 rfl 41 rfl _ builtRel0 ?_)
  refine Hn0.out.mono ?_
  rintro e w3 ⟨rfl, hb3⟩
  have HB3 := Lib.hid (HB1.out.trans (hb3.mono HB1.out.size))
  have HL3 := Lib.hid (HL1.out.below hb3)
  clear hb3 Hn0 HB1 HL1
  have hn1 : Blk (w3.alloc (.cells (fetchC z32 none 0 0).toArray 35)) w3.heap.size 35 (fetchC z32 none 0 0).toArray := Blk.new _ _ _
  have Hn1 := Lib.hid hn1
  clear hn1
  go_upto_region 4 with (first | (refine wpList_alloc0 rfl 35 rfl (fetchC z32 none 0 0).toArray _ i35 hi35 hz35 rfl ?_; simp only [Act.put, List.setIfInBounds_toArray, List.set_cons_succ, List.set_cons_zero]) | (refine wpList_store_row rfl 35 (.tmp 5) (.tmp 32) rfl w3.heap.size (fetchC z32 none 0 0).toArray rfl rfl 35 (fetchC z32 none 0 0).toArray Hn1.out (size35 _ (by simp [fetchC_len])) rfl (fetch_one _ _ _ _) ?_))
  obtain ⟨w4, hw4⟩ : ∃ w4, w4 = (w3.alloc (.cells (fetchC z32 none 0 0).toArray 35)).setRow w3.heap.size (fetchC z32 none 0 0).toArray := ⟨_, rfl⟩
  have hb4 : Below w3.heap.size w3 w4 := by rw [hw4]; exact Below.setRow ((Below.refl _ _).alloc (Nat.le_refl _) _) (Nat.le_refl _) _
  rw [← hw4]
  clear hw4 Hn1
  have HB4 := Lib.hid (HB3.out.trans (hb4.mono HB3.out.size))
  have HL4 := Lib.hid (HL3.out.below hb4)
  have Hn2 := Lib.hid (New_any (relC 0 0 0 2 z32) 2 z32 (relC_n 0 0 0 2 z32) (relC_t 0 0 0 2 z32) (by omega) (by omega) w4)
  clear hb4 HB3 HL3
  go_upto_region 5 with (refine wpList_buildOne rfl 41 5 (.const (.int .i64 2)) rfl _ rfl _ (builtRelN 2) ?_)
  refine Hn2.out.mono ?_
  rintro e w5 ⟨A5, rfl, hL5, hb5⟩
  have HB5 := Lib.hid (HB4.out.trans (hb5.mono HB4.out.size))
  have HL5 := Lib.hid (HL4.out.below hb5)
  have Ht5 := Lib.hid hL5
  clear hb5 Hn2 HB4 HL4 hL5
  have hn5 : Blk (w5.alloc (.cells (fetchC z32 none 0 0).toArray 35)) w5.heap.size 35 (fetchC z32 none 0 0).toArray := Blk.new _ _ _
  have Hn5 := Lib.hid hn5
  clear hn5
  go_upto_region 5 with (first | (refine wpList_alloc0 rfl 35 rfl (fetchC z32 none 0 0).toArray _ i35 hi35 hz35 rfl ?_; simp only [Act.put, List.setIfInBounds_toArray, List.set_cons_succ, List.set_cons_zero]) | (refine wpList_store_row rfl 35 (.tmp 7) (.tmp 37) rfl w5.heap.size (fetchC z32 A5 2 2).toArray rfl rfl 35 (fetchC z32 none 0 0).toArray Hn5.out (size35 _ (by simp [fetchC_len])) (by simp [fetchC_len]) (fetch_one _ _ _ _) ?_))
  obtain ⟨w6, hw6⟩ : ∃ w6, w6 = (w5.alloc (.cells (fetchC z32 none 0 0).toArray 35)).setRow w5.heap.size (fetchC z32 A5 2 2).toArray := ⟨_, rfl⟩
  have hb6 : Below w5.heap.size w5 w6 := by rw [hw6]; exact Below.setRow ((Below.refl _ _).alloc (Nat.le_refl _) _) (Nat.le_refl _) _
  have hT6 : Blk w6 w5.heap.size 35 (fetchC z32 A5 2 2).toArray := by rw [hw6]; exact setRow_heap _ _ _ _ _ _ Hn5.out
  rw [← hw6]
  clear hw6 Hn5
  have HBw6 := Lib.hid (HB5.out.trans (hb6.mono HB5.out.size))
  have HLw6 := Lib.hid (HL5.out.below hb6)
  have Htw6 := Lib.hid (Ht5.out.below hb6)
  have HTw6 := Lib.hid hT6
  obtain ⟨tb, htb⟩ : ∃ tb, tb = w5.heap.size := ⟨_, rfl⟩
  rw [← htb] at HTw6 ⊢
  clear hb6 HB5 HL5 Ht5 hT6 htb
  -- REGIONS 5 TO 7
  have hrt5 : ∀ w', Ext w6 w' → w'.rangeAt tb 0 (fetchC z32 A5 2 2) := fun w' hw' => fetch_range (HTw6.out.below (ext_below hw') HTw6.out.lt)
  have Hrt5 := Lib.hid hrt5
  have Hgw6 := Lib.hid (Hg.out.below HBw6.out)
  clear hrt5
  go_upto_region 5 with fail
  go_cut [10] from 39 to 44 (fun t10 wx => t10 = .int .i64 280 ∧ Below w6.heap.size w6 wx)
  case first =>
    refine wp_region_reads_tail 8 [0] 7 (by kernel_rfl) (List.take_append_drop _ _) rfl (by kernel_rfl) (by kernel_rfl) (by kernel_rfl) (by decide) (by kernel_rfl) (by kernel_rfl) (fun _ _ d _ _ h => by cases d <;> exact h) (by kernel_rfl) (by kernel_rfl) rfl ?_
    simp only [List.take_succ_cons, List.take_zero, List.drop_succ_cons, List.drop_zero, pickOps, List.getElem?_cons_zero, List.getElem?_cons_succ]
    refine wpQuiet_load_mid rfl 35 _ rfl tb 0 rfl (fetchC z32 A5 2 2) _ Hrt5.out hd35 hrow35 (by rw [fetchC_len]; kernel_rfl) ?_
    simp only [Act.put, List.setIfInBounds_toArray, List.set_cons_succ, List.set_cons_zero]
    refine wpQuiet_nil ?_
    refine chain_float (w0 := w6) (d := 9) (f := 6) (s := 7) (T := 35) (Z := (fetchC z32 none 0 0).toArray) (y := .tmp 43) (is1 := [3, 4, 5]) (by kernel_rfl) (fun _ _ d _ _ h => by cases d <;> exact h) (by kernel_rfl) rfl rfl rfl rfl (fun cells h => size35 _ (h.trans (by simp [fetchC_len]))) rfl rfl rfl rfl hi35 hz35 rfl [1, 2] _ _ _ (by kernel_rfl) rfl (ext_drew (ext_refl _)) (by simp) ?_
    intro y W hW
    have hbW : Below w6.heap.size w6 W := ((Below.refl _ w6).drew).trans hW
    simp only [Act.put, List.setIfInBounds_toArray, List.set_cons_succ, List.set_cons_zero, pickOps, List.getElem?_cons_zero, List.getElem?_cons_succ]
    intro K hK
    refine step_mk rfl 22 _ _ rfl _ _ rfl rfl _ _ (mkBytes W 1023 (by omega)) ?_
    obtain ⟨W1, hW1⟩ : ∃ W1, W1 = W.alloc (.cells ((List.replicate 1023 (0 : UInt8)).map byteV).toArray 5) := ⟨_, rfl⟩
    have hb1 : Below W.heap.size W W1 := by rw [hW1]; exact (Below.refl _ _).alloc (Nat.le_refl _) _
    have hr1 : Rd W1 1 (some ⟨W.heap.size, 0, none⟩) 1023 ((List.replicate 1023 (0 : UInt8)).map byteV) := by rw [hW1]; exact mkBytes_rd W 1023 (by omega)
    rw [← hW1]
    clear hW1
    refine hK _ _ rfl (by simp [Act.put]) hb1 ?_
    clear hK K
    intro y2 W2 hW2
    simp only [Act.put, List.setIfInBounds_toArray, List.set_cons_succ, List.set_cons_zero]
    have hb02 := hbW.trans ((hb1.trans (hW2.mono hb1.size)).mono hbW.size)
    have htk := Take_any z32 A5 2 2 (List.replicate 2 []) 0 (some ⟨W.heap.size, 0, none⟩) 1023 1023 (List.replicate 1023 0) none 0 0 [] W2 (Hgw6.out.below hb02) (Htw6.out.below hb02) (by omega) (hr1.below hW2) (by omega) (Rd.nil _ _ _) (Nat.le_refl _) (by omega)
    rw [takeE_bad (.inr (.inr (by rw [List.length_replicate, List.length_replicate]; decide)))] at htk
    have Htk := Lib.hid htk
    clear htk hr1 hb1 hW2 hW hbW
    intro K hK
    go_simp
    refine Htk.out.mono ?_
    rintro e W3 ⟨A', c', rfl, _, hb3⟩
    refine hK _ _ rfl (by simp [Act.put]) hb3 ?_
    have Hb3 := Lib.hid (hb02.trans (hb3.mono hb02.size))
    clear hK K Htk hb02 hb3
    intro y3 W4 hW4
    simp only [Act.put, List.setIfInBounds_toArray, List.set_cons_succ, List.set_cons_zero, chainP, finP, pickOps, List.getElem?_cons_zero, List.getElem?_cons_succ]
    repeat (go_big_quiet_step (fail))
    refine wpQuiet_nil ?_
    refine ⟨rfl, by simp, fun B W5 hB hb5 hblk => ⟨_, rfl, by simp [fetchC_len], fetch_one _ _ _ _, ?_⟩⟩
    have hb6 := Below.setRow (Hb3.out.trans ((hW4.trans (hb5.mono hW4.size)).mono Hb3.out.size)) hB (fetchC z32 A' 2 c').toArray
    have Hb6 := Lib.hid hb6
    clear hb6 hW4 hb5 hblk Hb3
    simp only [Exit.then, Act.put, List.setIfInBounds_toArray, List.set_cons_succ, List.set_cons_zero]
    go_wp2_with fail
    go_meet
    exact ⟨rfl, Hb6.out⟩
  case' rest => skip
  obtain ⟨rfl, hwc⟩ := hcut
  obtain ⟨v1, hv1⟩ : ∃ v, v = wc := ⟨_, rfl⟩
  subst hv1
  have HBv1 := Lib.hid (HBw6.out.trans (hwc.mono HBw6.out.size))
  have HLv1 := Lib.hid (HLw6.out.below hwc)
  have Htv1 := Lib.hid (Htw6.out.below hwc)
  have HTv1 := Lib.hid (HTw6.out.below hwc HTw6.out.lt)
  clear hwc HBw6 HLw6 Htw6 HTw6 Hrt5 Hgw6
  have hrt6 : ∀ w', Ext v1 w' → w'.rangeAt tb 0 (fetchC z32 A5 2 2) := fun w' hw' => fetch_range (HTv1.out.below (ext_below hw') HTv1.out.lt)
  have Hrt6 := Lib.hid hrt6
  have Hgv1 := Lib.hid (Hg.out.below HBv1.out)
  clear hrt6
  go_upto_region 6 with fail
  go_cut [12] from 45 to 50 (fun t10 wx => t10 = .int .i64 280 ∧ Below v1.heap.size v1 wx)
  case first =>
    refine wp_region_reads_tail 8 [0] 7 (by kernel_rfl) (List.take_append_drop _ _) rfl (by kernel_rfl) (by kernel_rfl) (by kernel_rfl) (by decide) (by kernel_rfl) (by kernel_rfl) (fun _ _ d _ _ h => by cases d <;> exact h) (by kernel_rfl) (by kernel_rfl) rfl ?_
    simp only [List.take_succ_cons, List.take_zero, List.drop_succ_cons, List.drop_zero, pickOps, List.getElem?_cons_zero, List.getElem?_cons_succ]
    refine wpQuiet_load_mid rfl 35 _ rfl tb 0 rfl (fetchC z32 A5 2 2) _ Hrt6.out hd35 hrow35 (by rw [fetchC_len]; kernel_rfl) ?_
    simp only [Act.put, List.setIfInBounds_toArray, List.set_cons_succ, List.set_cons_zero]
    refine wpQuiet_nil ?_
    refine chain_float (w0 := v1) (d := 11) (f := 6) (s := 7) (T := 35) (Z := (fetchC z32 none 0 0).toArray) (y := .tmp 49) (is1 := [3, 4, 5]) (by kernel_rfl) (fun _ _ d _ _ h => by cases d <;> exact h) (by kernel_rfl) rfl rfl rfl rfl (fun cells h => size35 _ (h.trans (by simp [fetchC_len]))) rfl rfl rfl rfl hi35 hz35 rfl [1, 2] _ _ _ (by kernel_rfl) rfl (ext_drew (ext_refl _)) (by simp) ?_
    intro y W hW
    have hbW : Below v1.heap.size v1 W := ((Below.refl _ v1).drew).trans hW
    simp only [Act.put, List.setIfInBounds_toArray, List.set_cons_succ, List.set_cons_zero, pickOps, List.getElem?_cons_zero, List.getElem?_cons_succ]
    intro K hK
    refine step_mk rfl 22 _ _ rfl _ _ rfl rfl _ _ (mkBytes W 1 (by omega)) ?_
    obtain ⟨W1, hW1⟩ : ∃ W1, W1 = W.alloc (.cells ((List.replicate 1 (0 : UInt8)).map byteV).toArray 5) := ⟨_, rfl⟩
    have hb1 : Below W.heap.size W W1 := by rw [hW1]; exact (Below.refl _ _).alloc (Nat.le_refl _) _
    have hr1 : Rd W1 1 (some ⟨W.heap.size, 0, none⟩) 1 ((List.replicate 1 (0 : UInt8)).map byteV) := by rw [hW1]; exact mkBytes_rd W 1 (by omega)
    rw [← hW1]
    clear hW1
    refine hK _ _ rfl (by simp [Act.put]) hb1 ?_
    clear hK K
    intro y2 W2 hW2
    simp only [Act.put, List.setIfInBounds_toArray, List.set_cons_succ, List.set_cons_zero]
    have hb02 := hbW.trans ((hb1.trans (hW2.mono hb1.size)).mono hbW.size)
    have htk := Take_any z32 A5 2 2 (List.replicate 2 []) 2 (some ⟨W.heap.size, 0, none⟩) 1 1 (List.replicate 1 0) none 0 0 [] W2 (Hgv1.out.below hb02) (Htv1.out.below hb02) (by omega) (hr1.below hW2) (by omega) (Rd.nil _ _ _) (Nat.le_refl _) (by omega)
    rw [takeE_bad (.inr (.inl (by rw [List.length_replicate]; decide)))] at htk
    have Htk := Lib.hid htk
    clear htk hr1 hb1 hW2 hW hbW
    intro K hK
    go_simp
    refine Htk.out.mono ?_
    rintro e W3 ⟨A', c', rfl, _, hb3⟩
    refine hK _ _ rfl (by simp [Act.put]) hb3 ?_
    have Hb3 := Lib.hid (hb02.trans (hb3.mono hb02.size))
    clear hK K Htk hb02 hb3
    intro y3 W4 hW4
    simp only [Act.put, List.setIfInBounds_toArray, List.set_cons_succ, List.set_cons_zero, chainP, finP, pickOps, List.getElem?_cons_zero, List.getElem?_cons_succ]
    repeat (go_big_quiet_step (fail))
    refine wpQuiet_nil ?_
    refine ⟨rfl, by simp, fun B W5 hB hb5 hblk => ⟨_, rfl, by simp [fetchC_len], fetch_one _ _ _ _, ?_⟩⟩
    have hb6 := Below.setRow (Hb3.out.trans ((hW4.trans (hb5.mono hW4.size)).mono Hb3.out.size)) hB (fetchC z32 A' 2 c').toArray
    have Hb6 := Lib.hid hb6
    clear hb6 hW4 hb5 hblk Hb3
    simp only [Exit.then, Act.put, List.setIfInBounds_toArray, List.set_cons_succ, List.set_cons_zero]
    go_wp2_with fail
    go_meet
    exact ⟨rfl, Hb6.out⟩
  case' rest => skip
  obtain ⟨rfl, hwc⟩ := hcut
  obtain ⟨v2, hv2⟩ : ∃ v, v = wc := ⟨_, rfl⟩
  subst hv2
  have HBv2 := Lib.hid (HBv1.out.trans (hwc.mono HBv1.out.size))
  have HLv2 := Lib.hid (HLv1.out.below hwc)
  have Htv2 := Lib.hid (Htv1.out.below hwc)
  have HTv2 := Lib.hid (HTv1.out.below hwc HTv1.out.lt)
  clear hwc HBv1 HLv1 Htv1 HTv1 Hrt6 Hgv1
  have hrt7 : ∀ w', Ext v2 w' → w'.rangeAt tb 0 (fetchC z32 A5 2 2) := fun w' hw' => fetch_range (HTv2.out.below (ext_below hw') HTv2.out.lt)
  have Hrt7 := Lib.hid hrt7
  have Hgv2 := Lib.hid (Hg.out.below HBv2.out)
  clear hrt7
  go_upto_region 7 with fail
  go_cut [14] from 51 to 56 (fun t10 wx => t10 = .int .i64 150 ∧ Below v2.heap.size v2 wx)
  case first =>
    refine wp_region_reads_tail 8 [0] 7 (by kernel_rfl) (List.take_append_drop _ _) rfl (by kernel_rfl) (by kernel_rfl) (by kernel_rfl) (by decide) (by kernel_rfl) (by kernel_rfl) (fun _ _ d _ _ h => by cases d <;> exact h) (by kernel_rfl) (by kernel_rfl) rfl ?_
    simp only [List.take_succ_cons, List.take_zero, List.drop_succ_cons, List.drop_zero, pickOps, List.getElem?_cons_zero, List.getElem?_cons_succ]
    refine wpQuiet_load_mid rfl 35 _ rfl tb 0 rfl (fetchC z32 A5 2 2) _ Hrt7.out hd35 hrow35 (by rw [fetchC_len]; kernel_rfl) ?_
    simp only [Act.put, List.setIfInBounds_toArray, List.set_cons_succ, List.set_cons_zero]
    refine wpQuiet_nil ?_
    refine chain_float (w0 := v2) (d := 13) (f := 6) (s := 7) (T := 35) (Z := (fetchC z32 none 0 0).toArray) (y := .tmp 55) (is1 := [3, 4, 5]) (by kernel_rfl) (fun _ _ d _ _ h => by cases d <;> exact h) (by kernel_rfl) rfl rfl rfl rfl (fun cells h => size35 _ (h.trans (by simp [fetchC_len]))) rfl rfl rfl rfl hi35 hz35 rfl [1, 2] _ _ _ (by kernel_rfl) rfl (ext_drew (ext_refl _)) (by simp) ?_
    intro y W hW
    have hbW : Below v2.heap.size v2 W := ((Below.refl _ v2).drew).trans hW
    simp only [Act.put, List.setIfInBounds_toArray, List.set_cons_succ, List.set_cons_zero, pickOps, List.getElem?_cons_zero, List.getElem?_cons_succ]
    intro K hK
    refine step_mk rfl 22 _ _ rfl _ _ rfl rfl _ _ (mkBytes W 1 (by omega)) ?_
    obtain ⟨W1, hW1⟩ : ∃ W1, W1 = W.alloc (.cells ((List.replicate 1 (0 : UInt8)).map byteV).toArray 5) := ⟨_, rfl⟩
    have hb1 : Below W.heap.size W W1 := by rw [hW1]; exact (Below.refl _ _).alloc (Nat.le_refl _) _
    have hr1 : Rd W1 1 (some ⟨W.heap.size, 0, none⟩) 1 ((List.replicate 1 (0 : UInt8)).map byteV) := by rw [hW1]; exact mkBytes_rd W 1 (by omega)
    rw [← hW1]
    clear hW1
    refine hK _ _ rfl (by simp [Act.put]) hb1 ?_
    clear hK K
    intro y2 W2 hW2
    simp only [Act.put, List.setIfInBounds_toArray, List.set_cons_succ, List.set_cons_zero]
    have hb02 := hbW.trans ((hb1.trans (hW2.mono hb1.size)).mono hbW.size)
    have htk := Take_any z32 A5 2 2 (List.replicate 2 []) 1 (some ⟨W.heap.size, 0, none⟩) 1 1 (List.replicate 1 0) none 0 0 [] W2 (Hgv2.out.below hb02) (Htv2.out.below hb02) (by omega) (hr1.below hW2) (by omega) (Rd.nil _ _ _) (Nat.le_refl _) (by omega)
    rw [show takeE z32 (List.replicate 2 []) 1 (List.replicate 1 0) [] = 150 from takeE_none] at htk
    have Htk := Lib.hid htk
    clear htk hr1 hb1 hW2 hW hbW
    intro K hK
    go_simp
    refine Htk.out.mono ?_
    rintro e W3 ⟨A', c', rfl, _, hb3⟩
    refine hK _ _ rfl (by simp [Act.put]) hb3 ?_
    have Hb3 := Lib.hid (hb02.trans (hb3.mono hb02.size))
    clear hK K Htk hb02 hb3
    intro y3 W4 hW4
    simp only [Act.put, List.setIfInBounds_toArray, List.set_cons_succ, List.set_cons_zero, chainP, finP, pickOps, List.getElem?_cons_zero, List.getElem?_cons_succ]
    repeat (go_big_quiet_step (fail))
    refine wpQuiet_nil ?_
    refine ⟨rfl, by simp, fun B W5 hB hb5 hblk => ⟨_, rfl, by simp [fetchC_len], fetch_one _ _ _ _, ?_⟩⟩
    have hb6 := Below.setRow (Hb3.out.trans ((hW4.trans (hb5.mono hW4.size)).mono Hb3.out.size)) hB (fetchC z32 A' 2 c').toArray
    have Hb6 := Lib.hid hb6
    clear hb6 hW4 hb5 hblk Hb3
    simp only [Exit.then, Act.put, List.setIfInBounds_toArray, List.set_cons_succ, List.set_cons_zero]
    go_wp2_with fail
    go_meet
    exact ⟨rfl, Hb6.out⟩
  case' rest => skip
  obtain ⟨rfl, hwc⟩ := hcut
  obtain ⟨v3, hv3⟩ : ∃ v, v = wc := ⟨_, rfl⟩
  subst hv3
  have HBv3 := Lib.hid (HBv2.out.trans (hwc.mono HBv2.out.size))
  have HLv3 := Lib.hid (HLv2.out.below hwc)
  have Htv3 := Lib.hid (Htv2.out.below hwc)
  have HTv3 := Lib.hid (HTv2.out.below hwc HTv2.out.lt)
  clear hwc HBv2 HLv2 Htv2 HTv2 Hrt7 Hgv2
  -- BEHIND THEM
  have Hdn := Lib.hid (Done_any z32 A5 2 2 (List.replicate 2 []) v3 Htv3.out (by omega) (by decide))
  go_upto_region 9 with (refine wpList_load_mid rfl 35 (.tmp 7) rfl tb 0 rfl (fetchC z32 A5 2 2) _ (fetch_range HTv3.out) hd35 hrow35 (by rw [fetchC_len]; kernel_rfl) ?_)
  refine Hdn.out.mono ?_
  rintro e v4 ⟨A8, c8, rfl, _, hb8⟩
  rw [show doneE (List.replicate 2 []) = 4 from rfl]
  have HBv4 := Lib.hid (HBv3.out.trans (hb8.mono HBv3.out.size))
  have HLv4 := Lib.hid (HLv3.out.below hb8)
  have Htv4 := Lib.hid (Htv3.out.below hb8)
  have HTv4 := Lib.hid (HTv3.out.below hb8 HTv3.out.lt)
  have Hn9 := Lib.hid (New_bad (relC 0 0 0 257 z32) 257 (relC_n 0 0 0 257 z32) (.inr (by omega)) v4)
  clear hb8 Hdn HBv3 HLv3 Htv3 HTv3
  go_upto_region 10 with (refine wpList_buildOne rfl 41 5 (.const (.int .i64 257)) rfl _ rfl _ (builtRelN 257) ?_)
  refine Hn9.out.mono ?_
  rintro e v5 ⟨rfl, hb9⟩
  have HBv5 := Lib.hid (HBv4.out.trans (hb9.mono HBv4.out.size))
  have HLv5 := Lib.hid (HLv4.out.below hb9)
  have Htv5 := Lib.hid (Htv4.out.below hb9)
  have HTv5 := Lib.hid (HTv4.out.below hb9 HTv4.out.lt)
  clear hb9 Hn9 HBv4 HLv4 Htv4 HTv4
  have hn5 : Blk (v5.alloc (.cells (fetchC z32 none 0 0).toArray 35)) v5.heap.size 35 (fetchC z32 none 0 0).toArray := Blk.new _ _ _
  have Hn5 := Lib.hid hn5
  clear hn5
  go_upto_region 10 with (first | (refine wpList_alloc0 rfl 35 rfl (fetchC z32 none 0 0).toArray _ i35 hi35 hz35 rfl ?_; simp only [Act.put, List.setIfInBounds_toArray, List.set_cons_succ, List.set_cons_zero]) | (refine wpList_store_row rfl 35 (.tmp 17) (.tmp 65) rfl v5.heap.size (fetchC z32 none 0 0).toArray rfl rfl 35 (fetchC z32 none 0 0).toArray Hn5.out (size35 _ (by simp [fetchC_len])) rfl (fetch_one _ _ _ _) ?_))
  obtain ⟨v6, hv6⟩ : ∃ v6, v6 = (v5.alloc (.cells (fetchC z32 none 0 0).toArray 35)).setRow v5.heap.size (fetchC z32 none 0 0).toArray := ⟨_, rfl⟩
  have hb6 : Below v5.heap.size v5 v6 := by rw [hv6]; exact Below.setRow ((Below.refl _ _).alloc (Nat.le_refl _) _) (Nat.le_refl _) _
  rw [← hv6]
  clear hv6 Hn5
  have HBv6 := Lib.hid (HBv5.out.trans (hb6.mono HBv5.out.size))
  have HLv6 := Lib.hid (HLv5.out.below hb6)
  have Htv6 := Lib.hid (Htv5.out.below hb6)
  have HTv6 := Lib.hid (HTv5.out.below hb6 HTv5.out.lt)
  clear hb6 HBv5 HLv5 Htv5 HTv5
  go_upto_region 11 with fail
  obtain ⟨b0, o0, s0, x0, rfl, hx0, k0, r0, _⟩ := HLv6.out.at_ (k := 0) (by omega)
  obtain ⟨b1, o1, s1, x1, e1, hx1, k1, r1, _⟩ := HLv6.out.at_ (k := 1) (by omega)
  cases e1
  have hn0 : s0.n = 1024 := by
    have := r0.len1
    unfold cutL at hx0
    rw [List.getElem?_map, List.getElem?_range (by rw [Hbl.out]; omega)] at hx0
    cases hx0
    rw [← this]
    simp [cutAt, Hbl.out]
  have hn1 : s1.n = 1 := by
    have := r1.len1
    unfold cutL at hx1
    rw [List.getElem?_map, List.getElem?_range (by rw [Hbl.out]; omega)] at hx1
    cases hx1
    rw [← this]
    simp [cutAt, Hbl.out]
  rw [Nat.add_zero, hn0] at k0
  rw [hn1] at k1
  have Hwt := Lib.hid (Want_any z32 A5 2 2 (List.replicate 2 []) v6 Htv6.out (by omega))
  clear hx0 hx1 r0 r1 hn0 hn1
  go_wp2_with (refine wpList_load_mid_g (by first | rfl | simp [Region.wanted, yielded]) 35 (.tmp 7) rfl tb 0 rfl (fetchC z32 A5 2 2) _ (fetch_range HTv6.out) hd35 hrow35 (by rw [fetchC_len]; kernel_rfl) ?_)
  refine Hwt.out.mono ?_
  rintro e v7 ⟨A9, c9, rfl, hR9, hb9⟩
  rw [show wantL (List.replicate 2 []) = [0, 1] from rfl] at hR9 ⊢
  have HR9 := Lib.hid hR9
  have HBv7 := Lib.hid (HBv6.out.trans (hb9.mono HBv6.out.size))
  clear hb9 hR9 Hwt k0 k1 HBv6 HLv6 Htv6 HTv6
  have hal : Below v7.heap.size v7 (v7.alloc (.cells #[.int .i64 0, .int .i64 1] 3)) := (Below.refl _ _).alloc (Nat.le_refl _) _
  have hlit : Rd (v7.alloc (.cells #[.int .i64 0, .int .i64 1] 3)) 1 (some ⟨v7.heap.size, 0, none⟩) 2 ([0, 1].map natV) := Blk.rd (xs := [0, 1].map natV) (Blk.new v7 3 _) (by simp)
  have Hin := Lib.hid (RInts_any A9 (some ⟨v7.heap.size, 0, none⟩) 2 2 c9 2 [0, 1] [0, 1] _ (HR9.out.below hal) hlit)
  have Hal := Lib.hid hal
  clear hal hlit
  go_wp2_with fail
  refine Hin.out.mono ?_
  rintro e v8 ⟨rfl, hb10⟩
  have HBv8 := Lib.hid ((HBv7.out.trans (Hal.out.mono HBv7.out.size)).trans (hb10.mono (by have := HBv7.out.size; have := Hal.out.size; omega)))
  clear hb10 Hin Hal HBv7
  go_wp2_with fail
  go_ret
  exact ⟨rfl, HBv8.out⟩
end Go.Proofs.YthlecmmngldodaaDoor
