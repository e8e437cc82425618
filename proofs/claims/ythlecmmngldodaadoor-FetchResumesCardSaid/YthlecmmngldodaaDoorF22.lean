/- The laws of chapter 28: bent. -/
import Derived.Test.YthlecmmngldodaaDoorF21
import Derived.Deep.CutRange
import Derived.Deep.CutBlock
namespace Go.Proofs.YthlecmmngldodaaDoor
open Go.RowKit Go.Sort

/-- A hash of which the first byte is given, the others 0. -/
def firstS (b : UInt8) : Sum32 := ⟨b :: List.replicate 31 0, rfl⟩
def bentN (N : Int) (w1 w3 : UInt8) : Int := if w1.toNat % 10 = 1 then N + (w3.toNat : Int) - 3 else N
def bentD (D : List UInt8) (w1 w2 w3 : UInt8) : List UInt8 :=
  if w1.toNat % 10 = 0 then D.set (w2.toNat % D.length) (D.getD (w2.toNat % D.length) 0 ^^^ w3)
  else if w1.toNat % 10 = 2 then D.take (w2.toNat % D.length)
  else if w1.toNat % 10 = 3 then D ++ [w3] else D
def bentL (L : List Sum32) (w1 w2 w3 : UInt8) : List Sum32 :=
  if w1.toNat % 10 = 4 then L ++ [firstS w3]
  else if w1.toNat % 10 = 5 then L.set (w2.toNat % L.length) (setS (L.getD (w2.toNat % L.length) z32) (w3.toNat % 32) ((L.getD (w2.toNat % L.length) z32).1.getD (w3.toNat % 32) 0 ^^^ w3))
  else L
theorem built33one (b : UInt8) : Tryd.prog.built 33 [(0, .int .u8 (b.toNat : Int))] = some (sumC (firstS b)).toArray := by kernel_rfl
theorem run_emptyS (w : World) : (Instr.buildSlice 46 0 #[]).run Tryd.prog w = .ok (.slice (some ⟨w.heap.size, 0, none⟩) 0 0) (w.alloc (.cells #[] 33)) := by kernel_rfl
theorem ck_all (x : Ck) : (ckV x).toArray.all (·.oneCell') = true := all_oneCell_toArray (ck_one x)
theorem size48 (cs : Array Value) (h : cs.size = 3) : (Tryd.prog.info? 48).map (·.size) = some cs.size := by rw [h]; kernel_rfl
theorem und48b : (Tryd.prog.underlying 48).map (·.isRow) = some true := by kernel_rfl
theorem und48 : ∃ d, Tryd.prog.underlying 48 = some d ∧ d.isRow = true := by
  obtain ⟨d, h1, h2⟩ := Option.map_eq_some_iff.1 und48b
  exact ⟨d, h1, h2⟩
theorem step_build3 {P : Program} {ops : Array Oper} {Q : Exit → Act → World → Prop} {o : Oper} {a : Act} {w : World} {K : Act → World → Prop} {E : Prop} (hg : o.guard = none) (t : TypeId) (i j k : Nat) (x y z : Operand) (ho : o.op = .build t #[(i, x), (j, y), (k, z)]) (vx vy vz : Value) (hx : a.eval x = vx) (hy : a.eval y = vy) (hz : a.eval z = vz) (Z : Array Value) (hZ : P.built t [(i, vx), (j, vy), (k, vz)] = some Z)
    (h : K (a.put o.dst (.agg Z)) w) : if Region.wanted o (yielded ops a.tmps) = true then Oper.wp P o a w K Q else E := by
  have hw : Region.wanted o (yielded ops a.tmps) = true := by simp [Region.wanted, hg]
  rw [if_pos hw]
  unfold Oper.wp execOp
  simp only [ho, Sem.run_bind]
  rw [show (Array.map (fun (x : Nat × Operand) => (x.fst, a.eval x.snd)) #[(i, x), (j, y), (k, z)]) = #[(i, vx), (j, vy), (k, vz)] from by simp [hx, hy, hz], run_build w t _ Z hZ]
  exact h
/-- What is left as it was by a write to a block of another type. -/
theorem AppZ.setRow {w : World} {base e sz n g t : Nat} {v : Value} {xs : List Value} {old cells : Array Value} (h : AppZ w base e sz v n xs) (hg : Blk w g t old) (hne : t ≠ e) : AppZ (w.setRow g cells) base e sz v n xs := by
  have hgr := ((KeptIn.refl (fun k => k ≠ g) w).setRow (g := g) (fun h => h rfl) cells).grownBut
  rcases h with ⟨h1, h2, a, h3, h4, h5⟩ | h
  · exact .inl ⟨h1, h2, a, h3, h4, Nat.lt_of_lt_of_le h5 hgr.size⟩
  · refine .inr (h.kept hgr ?_)
    rcases h.2 with ⟨rfl, _⟩ | ⟨g', cap, cur, rfl, _, hgg, _⟩
    · exact .inl rfl
    · exact .inr fun e' => by
        have : g' = g := by simpa [Value.ownBlock] using e'
        subst this
        exact (Blk.ne hg hgg hne) rfl
theorem AppZ.setAt {w : World} {base e sz n g i t : Nat} {v u : Value} {xs : List Value} {old : Array Value} (h : AppZ w base e sz v n xs) (hg : Blk w g t old) (hne : t ≠ e) : AppZ (w.setCell ⟨g, i, none⟩ u) base e sz v n xs := by
  have hgr := ((KeptIn.refl (fun k => k ≠ g) w).setAt (p := ⟨g, i, none⟩) (fun h => h rfl) u).grownBut
  rcases h with ⟨h1, h2, a, h3, h4, h5⟩ | h
  · exact .inl ⟨h1, h2, a, h3, h4, Nat.lt_of_lt_of_le h5 hgr.size⟩
  · refine .inr (h.kept hgr ?_)
    rcases h.2 with ⟨rfl, _⟩ | ⟨g', cap, cur, rfl, _, hgg, _⟩
    · exact .inl rfl
    · exact .inr fun e' => by
        have : g' = g := by simpa [Value.ownBlock] using e'
        subst this
        exact (Blk.ne hg hgg hne) rfl
theorem AppZ.trd {w : World} {base e sz n c : Nat} {A : Option Addr} {xs : List Value} (h : AppZ w base e sz (.slice A n c) n xs) : TRd w e sz A n xs := by
  rcases h with ⟨rfl, rfl, _⟩ | h
  · exact ⟨Rd.nil _ _ _, fun h => absurd h (Nat.lt_irrefl 0)⟩
  · exact TRd.of_own h
def zck : Ck := ⟨0, ⟨none, 0, 0⟩, ⟨none, 0, 0⟩⟩

set_option maxRecDepth 100000 in
set_option maxHeartbeats 4000000 in
theorem Bent_any (N : Int) (D : Option Addr) (dl dc : Nat) (d : List UInt8) (P : Option Addr) (pl pc : Nat) (p : List Sum32) (b0 b1 b2 b3 : UInt8) (w : World) (hN : -100000 ≤ N ∧ N ≤ 100000) (hD : Rd w 1 D dl (d.map byteV)) (hdl : 1 ≤ dl ∧ dl ≤ 100000) (hP : Rd w 32 P pl (p.flatMap sumC)) (hpl : pl ≤ 1000) :
    Calls Tryd.prog 21 #[.agg (ckV ⟨N, ⟨D, dl, dc⟩, ⟨P, pl, pc⟩⟩).toArray, .agg #[byteV b0, byteV b1, byteV b2, byteV b3]] w fun e w' => ∃ x : Ck, e = .returned (.agg (ckV x).toArray) ∧ x.i = bentN N b1 b3 ∧
      TRd w' 5 1 x.d.a x.d.n ((bentD d b1 b2 b3).map byteV) ∧ x.d.n ≤ x.d.c ∧ TRd w' 33 32 x.l.a x.l.n ((bentL p b1 b2 b3).flatMap sumC) ∧ x.l.n ≤ x.l.c ∧ Below w.heap.size w w' := by
  obtain ⟨i48, hi48, hz48, hs48, hy48⟩ := info_parts info48
  obtain ⟨i5, hi5, hz5, hs5, hy5⟩ := info_parts info5
  obtain ⟨i33, hi33, hz33, hs33, hy33⟩ := info_parts info32
  obtain ⟨d48, hd48, hrow48⟩ := und48
  have hdd := hD.len1
  have hpp := hP.lenf sumC_len (by omega)
  obtain ⟨W1, hW1⟩ : ∃ W1, W1 = (((w.alloc (.cells (ckV ⟨N, ⟨D, dl, dc⟩, ⟨P, pl, pc⟩⟩).toArray 48)).alloc (.cells #[byteV b0, byteV b1, byteV b2, byteV b3] 50)).alloc (.cells (ckV zck).toArray 48)) := ⟨_, rfl⟩
  have hB : Below w.heap.size w W1 := by rw [hW1]; exact (((Below.refl _ _).alloc (Nat.le_refl _) _).alloc (by simp) _).alloc (by simp; omega) _
  have hC : Blk W1 w.heap.size 48 (ckV ⟨N, ⟨D, dl, dc⟩, ⟨P, pl, pc⟩⟩).toArray := by rw [hW1]; exact ((Blk.new _ _ _).alloc _).alloc _
  have hV : Blk W1 (w.heap.size + 1) 50 #[byteV b0, byteV b1, byteV b2, byteV b3] := by
    rw [hW1]
    have := (Blk.new (w.alloc (.cells (ckV ⟨N, ⟨D, dl, dc⟩, ⟨P, pl, pc⟩⟩).toArray 48)) 50 #[byteV b0, byteV b1, byteV b2, byteV b3]).alloc (.cells (ckV zck).toArray 48)
    rwa [World.size_alloc] at this
  have hZ : Blk W1 (w.heap.size + 2) 48 (ckV zck).toArray := by
    rw [hW1]
    have := Blk.new ((w.alloc (.cells (ckV ⟨N, ⟨D, dl, dc⟩, ⟨P, pl, pc⟩⟩).toArray 48)).alloc (.cells #[byteV b0, byteV b1, byteV b2, byteV b3] 50)) 48 (ckV zck).toArray
    rwa [World.size_alloc, World.size_alloc] at this
  have HW1 := Lib.hid hW1
  clear hW1
  go_enter Tryd.func21, Tryd.ntmps21
  go_upto_region 1 with (refine wpList_alloc0 rfl 48 rfl (ckV zck).toArray _ i48 hi48 hz48 rfl ?_; simp only [Act.put, List.setIfInBounds_toArray, List.set_cons_succ, List.set_cons_zero, World.size_alloc])
  rw [← HW1.out]
  have k0 : W1.cell? ⟨w.heap.size, 0, none⟩ = some (.int .i64 N) := by rw [hC.cell]; rfl
  have k1 : W1.cell? ⟨w.heap.size, 1, none⟩ = some (.slice D dl dc) := by rw [hC.cell]; rfl
  have k2 : W1.cell? ⟨w.heap.size, 2, none⟩ = some (.slice P pl pc) := by rw [hC.cell]; rfl
  have hs1 := hZ.lt
  have HB := Lib.hid hB
  have HV := Lib.hid hV
  have HZ := Lib.hid hZ
  have HD := Lib.hid (hD.below hB)
  have HP := Lib.hid (hP.below hB)
  have k0r := cell_regrown k0
  have k1r := cell_regrown k1
  have k2r := cell_regrown k2
  have Hdd := Lib.hid hdd
  have Hpp := Lib.hid hpp
  clear hB hC hV hZ hD hP HW1 k0 k1 k2 hdd hpp
  go_cut [5] from 6 to 16 (fun t5 wx => ∃ (B : Nat) (A4 A5 : Option Addr) (c4 c5 : Nat), t5 = .pointer (some ⟨B, 0, none⟩) ∧ W1.heap.size ≤ B ∧ Blk wx B 48 (ckV ⟨N, ⟨A4, dl, c4⟩, ⟨A5, pl, c5⟩⟩).toArray ∧ dl ≤ c4 ∧ pl ≤ c5 ∧ AppZ wx W1.heap.size 5 1 (.slice A4 dl c4) dl (d.map byteV) ∧ AppZ wx W1.heap.size 33 32 (.slice A5 pl c5) pl (p.flatMap sumC) ∧ (∀ k, (Value.slice A5 pl c5).ownBlock = some k → ∃ cur, Blk wx k 33 cur) ∧ Below W1.heap.size W1 wx)
  case first =>
    refine wp_region_reads_tail 12 [0, 1, 3, 4, 7, 8] 6 (by kernel_rfl) (List.take_append_drop _ _) rfl (by kernel_rfl) (by kernel_rfl) (by kernel_rfl) (by decide) (by kernel_rfl) (by kernel_rfl) (fun _ _ d _ _ h => by cases d <;> exact h) (by kernel_rfl) (by kernel_rfl) rfl ?_
    simp only [List.take_succ_cons, List.take_zero, List.drop_succ_cons, List.drop_zero, pickOps, List.getElem?_cons_zero, List.getElem?_cons_succ]
    repeat (go_big_quiet_step (fail))
    refine wpQuiet_nil ?_
    refine web_start0 (fs := [floNil 2 8 5, floNil 6 12 33, floVar 11 5 48 (ckV zck).toArray]) [.act 5 [2], .act 9 [6], .act 10 []] _ _ (by kernel_rfl) (fun _ _ d _ _ h => by cases d <;> exact h) ⟨⟨_, rfl, flo_nil rfl rfl rfl run_empty5⟩, ⟨_, rfl, flo_nil rfl rfl rfl run_emptyS⟩, ⟨_, rfl, flo_var rfl rfl rfl _ i48 hi48 hz48 rfl⟩, trivial⟩ (by decide) (by decide) (by kernel_rfl) (by kernel_rfl) (ext_drew (ext_refl _)) (by intro F hF; simp at hF; rcases hF with rfl | rfl | rfl <;> simp) 6 (by decide) (by kernel_rfl) ?_
    intro v1 W hW hneed o ho K hK
    cases ho
    obtain ⟨B2, hv2, hB2, hblk2⟩ := hneed 2 (by simp) (floNil 2 8 5) (by simp) rfl
    have hbW : Below W1.heap.size W1 W := ((Below.refl _ W1).drew).trans hW
    simp only [putS, List.foldl_cons, List.foldl_nil, Act.put, List.setIfInBounds_toArray, List.set_cons_succ, List.set_cons_zero]
    refine step_appe rfl (.tmp 8) (.tmp 10) 22 rfl 5 i5 (.int .u8 0) 1 1 Tryd.underlying22 hi5 hz5 hs5 hy5 rfl (by omega) W1.heap.size B2 hB2 hblk2 ?_ D dl dc (d.map byteV) rfl (HD.out.below hbW) (by unfold maxLen; omega) (by omega) ?_
    · exact hv2
    intro x1 W2 ha1 hb1 _
    refine hK _ _ (by intro F hF; simp at hF; rcases hF with rfl | rfl | rfl <;> exact ⟨rfl, by simp [Act.put]⟩) hb1 ?_
    have hb12 := hbW.trans (hb1.mono hbW.size)
    clear hK K hW hneed
    obtain ⟨A4, c4, rfl, hc4, _⟩ := ha1.rd
    intro v2 W3 hW3 hneed o ho K hK
    cases ho
    obtain ⟨B3, hv3, hB3, hblk3⟩ := hneed 6 (by simp) (floNil 6 12 33) (by simp) rfl
    have hb13 := hb12.trans (hW3.mono hb12.size)
    have ha13 := ha1.below hW3 (Nat.le_refl _)
    simp only [putS, List.foldl_cons, List.foldl_nil, Act.put, List.setIfInBounds_toArray, List.set_cons_succ, List.set_cons_zero]
    refine step_appe rfl (.tmp 12) (.tmp 14) 46 rfl 33 i33 (.agg zero32) 32 32 Tryd.underlying46 hi33 hz33 hs33 hy33 rfl (by omega) W1.heap.size B3 hB3 hblk3 ?_ P pl pc (p.flatMap sumC) rfl (HP.out.below hb13) (by unfold maxLen; omega) (by omega) ?_
    · exact hv3
    intro x2 W4 ha2 hb2 hty2
    refine hK _ _ (by intro F hF; simp at hF; rcases hF with rfl | rfl | rfl <;> exact ⟨rfl, by simp [Act.put]⟩) hb2 ?_
    have hb14 := hb13.trans (hb2.mono hb13.size)
    have ha14 := ha13.below hb2 (Nat.le_refl _)
    clear hK K hW3 hneed ha1 ha13
    obtain ⟨A5, c5, rfl, hc5, _⟩ := ha2.rd
    intro v3 W5 hW5 _ o ho K hK
    cases ho
    have hb15 := hb14.trans (hW5.mono hb14.size)
    have ha15 := ha14.below hW5 (Nat.le_refl _)
    have ha25 := ha2.below hW5 (Nat.le_refl _)
    simp only [putS, List.foldl_cons, List.foldl_nil, Act.put, List.setIfInBounds_toArray, List.set_cons_succ, List.set_cons_zero]
    refine step_build3 rfl 48 0 1 2 (.tmp 7) (.tmp 11) (.tmp 15) rfl (.int .i64 N) (slV ⟨A4, dl, c4⟩) (slV ⟨A5, pl, c5⟩) rfl rfl rfl _ (built48 N ⟨A4, dl, c4⟩ ⟨A5, pl, c5⟩) ?_
    refine hK _ _ (by intro F hF; simp at hF; rcases hF with rfl | rfl | rfl <;> exact ⟨rfl, by simp [Act.put]⟩) (Below.refl _ _) ?_
    have hW5' := hW5
    clear hK K hW5 ha14 ha2
    intro v4 W6 hW6 hall
    obtain ⟨B, hvB, hBw, hBb⟩ := hall (floVar 11 5 48 (ckV zck).toArray) (by simp) (floVar 11 5 48 (ckV zck).toArray) (by simp) rfl
    obtain ⟨B3', hvB3, hB3w, hB3b⟩ := hall (floNil 6 12 33) (by simp) (floNil 6 12 33) (by simp) rfl
    have hvB' : v4 11 = .pointer (some ⟨B, 0, none⟩) := hvB
    have hb16 := hb15.trans (hW6.mono hb15.size)
    have ha16 := ha15.below hW6 (Nat.le_refl _)
    have ha26 := ha25.below hW6 (Nat.le_refl _)
    have hset := Below.setRow hb16 hBw (ckV ⟨N, ⟨A4, dl, c4⟩, ⟨A5, pl, c5⟩⟩).toArray
    have hq1 := ha16.setRow hBb (cells := (ckV ⟨N, ⟨A4, dl, c4⟩, ⟨A5, pl, c5⟩⟩).toArray) (by decide)
    have hq2 := ha26.setRow hBb (cells := (ckV ⟨N, ⟨A4, dl, c4⟩, ⟨A5, pl, c5⟩⟩).toArray) (by decide)
    have hq3 : Blk (W6.setRow B (ckV ⟨N, ⟨A4, dl, c4⟩, ⟨A5, pl, c5⟩⟩).toArray) B 48 (ckV ⟨N, ⟨A4, dl, c4⟩, ⟨A5, pl, c5⟩⟩).toArray := setRow_heap _ _ _ _ _ _ hBb
    simp only [Exit.then, putS, List.foldl_cons, List.foldl_nil, Act.put, List.setIfInBounds_toArray, List.set_cons_succ, List.set_cons_zero]
    rw [hvB']
    refine wpList_store_row rfl 48 (.tmp 5) (.tmp 16) rfl B (ckV ⟨N, ⟨A4, dl, c4⟩, ⟨A5, pl, c5⟩⟩).toArray rfl rfl 48 (ckV zck).toArray hBb (size48 _ rfl) rfl (ck_all _) ?_
    refine wpList_nil ?_
    have Hq1 := Lib.hid hq1
    have Hq2 := Lib.hid hq2
    have Hq3 := Lib.hid hq3
    have Hset := Lib.hid hset
    have hty6 : ∀ k, (Value.slice A5 pl c5).ownBlock = some k → ∃ cur, Blk (W6.setRow B (ckV ⟨N, ⟨A4, dl, c4⟩, ⟨A5, pl, c5⟩⟩).toArray) k 33 cur := fun k e => by
      obtain ⟨cur, hc⟩ := hty2 k e
      have h5 := hc.below hW5' hc.lt
      have h6 := h5.below hW6 h5.lt
      exact ⟨cur, h6.keptIn ((KeptIn.refl (fun q => q ≠ B) W6).setRow (g := B) (fun h => h rfl) _) (h6.ne hBb (by decide))⟩
    have Hty6 := Lib.hid hty6
    clear hty6 hty2 hW5'
    clear hq1 hq2 hq3 hset ha16 ha26 ha15 ha25 hb16 hb15 hb14 hb13 hb12 hbW hall hvB hvB' hvB3 hBb hB3b hW6 hv2 hv3 hblk2 hblk3
    go_wp2_with fail
    go_meet
    exact ⟨B, A4, A5, c4, c5, rfl, hBw, Hq3.out, hc4, hc5, Hq1.out, Hq2.out, Hty6.out, Hset.out⟩
  case' rest => skip
  obtain ⟨B, A4, A5, c4, c5, rfl, hBw, hC5, hc4, hc5, hQ5, hP5, hty, hb5⟩ := hcut
  obtain ⟨w5, hw5⟩ : ∃ v, v = wc := ⟨_, rfl⟩
  subst hw5
  have hV5 := HV.out.below hb5 HV.out.lt
  have e1 : w5.cell? ⟨w.heap.size + 1, 1, none⟩ = some (.int .u8 (b1.toNat : Int)) := by rw [hV5.cell]; rfl
  have e2 : w5.cell? ⟨w.heap.size + 1, 2, none⟩ = some (.int .u8 (b2.toNat : Int)) := by rw [hV5.cell]; rfl
  have e3 : w5.cell? ⟨w.heap.size + 1, 3, none⟩ = some (.int .u8 (b3.toNat : Int)) := by rw [hV5.cell]; rfl
  have HZ5 := Lib.hid (HZ.out.below hb5 HZ.out.lt)
  have HB5 := Lib.hid (HB.out.trans (hb5.mono HB.out.size))
  have HC5 := Lib.hid hC5
  have HQ5 := Lib.hid hQ5
  have HP5 := Lib.hid hP5
  have Hty := Lib.hid hty
  have hW15 := hb5.size
  have hC5lt := hC5.lt
  clear k0r k1r k2r hV5 hb5 hC5 hQ5 hP5 hty
  go_upto_region 2 with fail
  go_upto_block 0 with fail
  have hx1 := b1.toNat_lt
  have hx2 := b2.toNat_lt
  have hx3 := b3.toNat_lt
  have tQ := HQ5.out.trd
  have tP := HP5.out.trd
  have TQ := Lib.hid tQ
  have TP := Lib.hid tP
  clear tQ tP
  go_cut [] from 19 to 104 (fun wx => ∃ x : Ck, Blk wx B 48 (ckV x).toArray ∧ x.i = bentN N b1 b3 ∧ TRd wx 5 1 x.d.a x.d.n ((bentD d b1 b2 b3).map byteV) ∧ x.d.n ≤ x.d.c ∧ TRd wx 33 32 x.l.a x.l.n ((bentL p b1 b2 b3).flatMap sumC) ∧ x.l.n ≤ x.l.c ∧ Blk wx (w.heap.size + 2) 48 (ckV zck).toArray ∧ Below w.heap.size w wx)
  case first =>
    have c0 : w5.cell? ⟨B, 0, none⟩ = some (.int .i64 N) := by rw [HC5.out.cell]; rfl
    have c1 : w5.cell? ⟨B, 1, none⟩ = some (.slice A4 dl c4) := by rw [HC5.out.cell]; rfl
    have c2 : w5.cell? ⟨B, 2, none⟩ = some (.slice A5 pl c5) := by rw [HC5.out.cell]; rfl
    have fr := HC5.out.frozen
    have hZne : w.heap.size + 2 ≠ B := by omega
    have hwB : w.heap.size ≤ B := by omega
    by_cases h0 : b1.toNat % 10 = 0
    · have hk : (b1.toNat : Int) % 10 = 0 := by omega
      have hvN : bentN N b1 b3 = N := by unfold bentN; rw [if_neg (by omega)]
      have hvD : bentD d b1 b2 b3 = d.set (b2.toNat % d.length) (d.getD (b2.toNat % d.length) 0 ^^^ b3) := by unfold bentD; rw [if_pos h0]
      have hvL : bentL p b1 b2 b3 = p := by unfold bentL; rw [if_neg (by omega), if_neg (by omega)]
      have HvN := Lib.hid hvN
      have HvD := Lib.hid hvD
      have HvL := Lib.hid hvL
      clear hvN hvD hvL
      obtain ⟨g, hg, hown⟩ : ∃ g, A4 = some ⟨g, 0, none⟩ ∧ w5.ownsRow W1.heap.size 5 1 (.slice A4 dl c4) dl (d.map byteV) := by
        rcases HQ5.out with ⟨h, _⟩ | h
        · omega
        · rcases h.2 with ⟨hv, h0⟩ | ⟨g, _, _, hv, _⟩
          · omega
          · cases hv
            exact ⟨g, rfl, h⟩
      subst hg
      obtain ⟨cur, hcur⟩ := ownsRow_blk hown
      obtain ⟨q0, hq0⟩ : ∃ q0, q0 = b2.toNat % dl := ⟨_, rfl⟩
      have hq : q0 < dl := by rw [hq0]; exact Nat.mod_lt _ (by omega)
      have hqi : (b2.toNat : Int) % (dl : Int) = (q0 : Int) := by rw [hq0]; omega
      obtain ⟨bp, op, y, e, hy, hc⟩ := (Rd.of_own hown).byte_ hq
      cases e
      rw [Nat.zero_add] at hc
      have hf := hcur.frozen q0
      have hxor : bits .xor .u8 (y.toNat : Int) (b3.toNat : Int) = ((y ^^^ b3).toNat : Int) := w8_xor y b3
      have hown' := ownsRow_set hown (g := g) rfl q0 (byteV (y ^^^ b3))
      rw [← List.map_set] at hown'
      have hgb := (hown.lt g rfl).1
      have hDd : bentD d b1 b2 b3 = d.set q0 (y ^^^ b3) := by
        rw [HvD.out, Hdd.out, ← hq0, List.getD_eq_getElem?_getD, hy]; rfl
      have hmq : (wrap64 (b2.toNat : Int)).tmod (dl : Int) = (q0 : Int) := by
        rw [show wrap64 (b2.toNat : Int) = (b2.toNat : Int) from by unfold wrap64; omega, Int.tmod_eq_emod_of_nonneg (by omega), hqi]
      have HDd := Lib.hid hDd
      have Hown := Lib.hid hown'
      have Hcur := Lib.hid hcur
      have Hxor := Lib.hid hxor
      clear hq0 hy hown hown' hcur hDd c0 c2
      go_upto_region 4 with fail
      refine wp_region_quiet_tail 14 (by kernel_rfl) (List.take_append_drop _ _) rfl (by kernel_rfl) (by kernel_rfl) (by kernel_rfl) (by kernel_rfl) (by kernel_rfl) (by decide) (by kernel_rfl) ?_
      simp only [List.take_succ_cons, List.take_zero, List.drop_succ_cons, List.drop_zero]
      repeat (go_big_quiet_step (fail))
      refine wpQuiet_nil ?_
      intro wq hw'
      obtain ⟨nq2, rfl⟩ := hw'
      clear hmq
      go_wp2_with fail
      go_meet
      have hv : Value.int .u8 ((y.toNat ^^^ b3.toNat : Nat) : Int) = byteV (y ^^^ b3) := by unfold byteV; rw [UInt8.toNat_xor]
      have HK := (KeptIn.refl (fun k => k ≠ g) w5).setAt (p := ⟨g, q0, none⟩) (fun h => h rfl) (byteV (y ^^^ b3))
      have hgB := Hcur.out.ne HC5.out (by decide)
      have hgZ := Hcur.out.ne HZ5.out (by decide)
      rw [hv, show (w5.drewN nq2).setCell ⟨g, q0, none⟩ (byteV (y ^^^ b3)) = (w5.setCell ⟨g, q0, none⟩ (byteV (y ^^^ b3))).drewN nq2 from rfl]
      have hdr : Below (w5.setCell ⟨g, q0, none⟩ (byteV (y ^^^ b3))).heap.size (w5.setCell ⟨g, q0, none⟩ (byteV (y ^^^ b3))) ((w5.setCell ⟨g, q0, none⟩ (byteV (y ^^^ b3))).drewN nq2) := below_drewN (Below.refl _ _) nq2
      exact ⟨⟨N, ⟨some ⟨g, 0, none⟩, dl, c4⟩, ⟨A5, pl, c5⟩⟩, (HC5.out.keptIn HK (fun e => hgB e.symm)).drewN nq2, by rw [HvN.out], by rw [HDd.out]; exact (TRd.of_own Hown.out).below hdr, hc4, by rw [HvL.out]; exact (TP.out.kept Hcur.out (by decide) HK).below hdr, hc5, (HZ5.out.keptIn HK (fun e => hgZ e.symm)).drewN nq2, below_drewN (HB5.out.setCell (by show w.heap.size ≤ g; omega) _) nq2⟩
    by_cases h1 : b1.toNat % 10 = 1
    · have hk : (b1.toNat : Int) % 10 = 1 := by omega
      have hvN : bentN N b1 b3 = N + (b3.toNat : Int) - 3 := by unfold bentN; rw [if_pos h1]
      have hvD : bentD d b1 b2 b3 = d := by unfold bentD; rw [if_neg (by omega), if_neg (by omega), if_neg (by omega)]
      have hvL : bentL p b1 b2 b3 = p := by unfold bentL; rw [if_neg (by omega), if_neg (by omega)]
      have HvN := Lib.hid hvN
      have HvD := Lib.hid hvD
      have HvL := Lib.hid hvL
      clear hvN hvD hvL
      clear c1 c2 e2
      go_wp2_with fail
      go_meet
      have HK := (KeptIn.refl (fun k => k ≠ B) w5).setAt (p := ⟨B, 0, none⟩) (fun h => h rfl) (.int .i64 (N + ((b3.toNat : Int) - 3)))
      refine ⟨⟨N + ((b3.toNat : Int) - 3), ⟨A4, dl, c4⟩, ⟨A5, pl, c5⟩⟩, heap_setCell_same w5 B 0 _ 48 _ HC5.out, by rw [HvN.out]; show N + ((b3.toNat : Int) - 3) = _; omega, by rw [HvD.out]; exact TQ.out.kept HC5.out (by decide) HK, hc4, by rw [HvL.out]; exact TP.out.kept HC5.out (by decide) HK, hc5, HZ5.out.keptIn HK hZne, HB5.out.setCell hwB _⟩
    by_cases h2 : b1.toNat % 10 = 2
    · have hk : (b1.toNat : Int) % 10 = 2 := by omega
      have hvN : bentN N b1 b3 = N := by unfold bentN; rw [if_neg (by omega)]
      have hvD : bentD d b1 b2 b3 = d.take (b2.toNat % d.length) := by unfold bentD; rw [if_neg (by omega), if_pos h2]
      have hvL : bentL p b1 b2 b3 = p := by unfold bentL; rw [if_neg (by omega), if_neg (by omega)]
      have HvN := Lib.hid hvN
      have HvD := Lib.hid hvD
      have HvL := Lib.hid hvL
      clear hvN hvD hvL
      obtain ⟨q0, hq0⟩ : ∃ q0, q0 = b2.toNat % dl := ⟨_, rfl⟩
      have hq : q0 < dl := by rw [hq0]; exact Nat.mod_lt _ (by omega)
      have hqi : (b2.toNat : Int) % (dl : Int) = (q0 : Int) := by rw [hq0]; omega
      have hsl := run_bytes_head A4 dl c4 q0 (by omega)
      have hDd : bentD d b1 b2 b3 = d.take q0 := by rw [HvD.out, Hdd.out, ← hq0]
      have hmq : (wrap64 (b2.toNat : Int)).tmod (dl : Int) = (q0 : Int) := by
        rw [show wrap64 (b2.toNat : Int) = (b2.toNat : Int) from by unfold wrap64; omega, Int.tmod_eq_emod_of_nonneg (by omega), hqi]
      have HDd := Lib.hid hDd
      clear hq0 hDd c0 c2 e3
      go_upto_region 8 with fail
      refine wp_region_quiet_tail 10 (by kernel_rfl) (List.take_append_drop _ _) rfl (by kernel_rfl) (by kernel_rfl) (by kernel_rfl) (by kernel_rfl) (by kernel_rfl) (by decide) (by kernel_rfl) ?_
      simp only [List.take_succ_cons, List.take_zero, List.drop_succ_cons, List.drop_zero]
      repeat (go_big_quiet_step (fail))
      refine wpQuiet_nil ?_
      intro wq hw'
      obtain ⟨nq2, rfl⟩ := hw'
      clear hmq
      go_wp2_with fail
      go_meet
      have HK := (KeptIn.refl (fun k => k ≠ B) w5).setAt (p := ⟨B, 1, none⟩) (fun h => h rfl) (.slice A4 q0 c4)
      rw [show (w5.drewN nq2).setCell ⟨B, 1, none⟩ (.slice A4 q0 c4) = (w5.setCell ⟨B, 1, none⟩ (.slice A4 q0 c4)).drewN nq2 from rfl]
      have hdr : Below (w5.setCell ⟨B, 1, none⟩ (.slice A4 q0 c4)).heap.size (w5.setCell ⟨B, 1, none⟩ (.slice A4 q0 c4)) ((w5.setCell ⟨B, 1, none⟩ (.slice A4 q0 c4)).drewN nq2) := below_drewN (Below.refl _ _) nq2
      have hT0 : TRd w5 5 1 A4 q0 ((d.take q0).map byteV) := ⟨TQ.out.1.head1 (by omega), fun h0 b off e => TQ.out.2 (by omega) b off e⟩
      exact ⟨⟨N, ⟨A4, q0, c4⟩, ⟨A5, pl, c5⟩⟩, Blk.drewN (heap_setCell_same w5 B 1 _ 48 _ HC5.out) nq2, by rw [HvN.out], by rw [HDd.out]; exact (hT0.kept HC5.out (by decide) HK).below hdr, by show q0 ≤ c4; omega, by rw [HvL.out]; exact (TP.out.kept HC5.out (by decide) HK).below hdr, hc5, (HZ5.out.keptIn HK hZne).drewN nq2, below_drewN (HB5.out.setCell hwB _) nq2⟩
    by_cases h3 : b1.toNat % 10 = 3
    · have hk : (b1.toNat : Int) % 10 = 3 := by omega
      have hvN : bentN N b1 b3 = N := by unfold bentN; rw [if_neg (by omega)]
      have hvD : bentD d b1 b2 b3 = d ++ [b3] := by unfold bentD; rw [if_neg (by omega), if_neg (by omega), if_pos h3]
      have hvL : bentL p b1 b2 b3 = p := by unfold bentL; rw [if_neg (by omega), if_neg (by omega)]
      have HvN := Lib.hid hvN
      have HvD := Lib.hid hvD
      have HvL := Lib.hid hvL
      clear hvN hvD hvL
      have Hrl := Lib.hid (lit_rdE w5 (.int .u8 (b3.toNat : Int)) 5)
      have happ : ∀ (v9 : Value) (w9 : World), AppZ w9 W1.heap.size 5 1 v9 (dl + 1) (d.map byteV ++ [byteV b3]) → (w5.alloc (.cells #[byteV b3] 5)).grownBy w9 (Value.slice A4 dl c4).ownBlock →
          ∃ A9 c9, v9 = .slice A9 (dl + 1) c9 ∧ dl + 1 ≤ c9 ∧ Hid (Blk w9 B 48 (ckV ⟨N, ⟨A4, dl, c4⟩, ⟨A5, pl, c5⟩⟩).toArray) ∧ Hid (TRd w9 5 1 A9 (dl + 1) ((d ++ [b3]).map byteV)) ∧ Hid (TRd w9 33 32 A5 pl (p.flatMap sumC)) ∧ Hid (Blk w9 (w.heap.size + 2) 48 (ckV zck).toArray) ∧ Hid (Below w.heap.size w w9) := by
        intro v9 w9 ha hg
        have hal : Below w5.heap.size w5 (w5.alloc (.cells #[byteV b3] 5)) := (Below.refl _ _).alloc (Nat.le_refl _) _
        have hQa := HQ5.out.below hal (Nat.le_refl _)
        have hrow := hQa.row (by omega)
        have hC9 := (HC5.out.alloc (.cells #[byteV b3] 5)).kept hg (hQa.own_ne (by omega) (HC5.out.alloc _) (by decide))
        have hZ9 := (HZ5.out.alloc (.cells #[byteV b3] 5)).kept hg (hQa.own_ne (by omega) (HZ5.out.alloc _) (by decide))
        have hP9 := (TP.out.below hal).grown hg hrow (by decide)
        have hB9 := (HB5.out.alloc (by omega) (.cells #[byteV b3] 5)).grown hg (by simp; omega) (fun k e => by have := (hQa.lt k e).1; omega)
        obtain ⟨A9, c9, rfl, hc9, hr9⟩ := ha.rd
        exact ⟨A9, c9, rfl, hc9, hC9, by rw [List.map_append]; exact ha.trd, hP9, hZ9, hB9⟩
      have Happ := Lib.hid happ
      clear happ c0 c2 e2
      go_wp2_with (at_builtin; go_loud (refine wpList_appz rfl (.tmp 63) (.tmp 66) 22 rfl 5 i5 (.int .u8 0) 1 1 Tryd.underlying22 hi5 hz5 hs5 hy5 rfl (by omega) W1.heap.size (by simp; omega) _ dl _ rfl (HQ5.out.alloc _) (some ⟨w5.heap.size, 0, none⟩) 1 1 [byteV b3] rfl Hrl.out (by simp [byteV, Value.oneCell']) (by unfold maxLen; omega) (by omega) ?_; intro v9 w9 ha9 hg9; obtain ⟨A9, c9, rfl, hc9, HC9, HQ9, HP9, HZ9, HB9⟩ := Happ.out v9 w9 ha9 hg9; have c1 : w9.cell? ⟨B, 1, none⟩ = some (.slice A4 dl c4) := (HC9.out.cell 1).trans rfl; have fr := HC9.out.frozen; clear ha9 hg9))
      go_meet
      have HK := (KeptIn.refl (fun k => k ≠ B) w9).setAt (p := ⟨B, 1, none⟩) (fun h => h rfl) (.slice A9 (dl + 1) c9)
      exact ⟨⟨N, ⟨A9, dl + 1, c9⟩, ⟨A5, pl, c5⟩⟩, heap_setCell_same w9 B 1 _ 48 _ HC9.out, by rw [HvN.out], by rw [HvD.out]; exact HQ9.out.kept HC9.out (by decide) HK, hc9, by rw [HvL.out]; exact HP9.out.kept HC9.out (by decide) HK, hc5, HZ9.out.keptIn HK hZne, HB9.out.setCell hwB _⟩
    by_cases h4 : b1.toNat % 10 = 4
    · have hk : (b1.toNat : Int) % 10 = 4 := by omega
      have hvN : bentN N b1 b3 = N := by unfold bentN; rw [if_neg (by omega)]
      have hvD : bentD d b1 b2 b3 = d := by unfold bentD; rw [if_neg (by omega), if_neg (by omega), if_neg (by omega)]
      have hvL : bentL p b1 b2 b3 = p ++ [firstS b3] := by unfold bentL; rw [if_pos h4]
      have HvN := Lib.hid hvN
      have HvD := Lib.hid hvD
      have HvL := Lib.hid hvL
      clear hvN hvD hvL
      have hsz : (sumC (firstS b3)).toArray.size = 32 := by rw [List.size_toArray, sumC_len]
      have happ : ∀ (v9 : Value) (w9 : World), AppZ w9 W1.heap.size 33 32 v9 (pl + 1) (p.flatMap sumC ++ sumC (firstS b3)) → (w5.alloc (.cells (sumC (firstS b3)).toArray 33)).grownBy w9 (Value.slice A5 pl c5).ownBlock →
          ∃ A9 c9, v9 = .slice A9 (pl + 1) c9 ∧ pl + 1 ≤ c9 ∧ Hid (Blk w9 B 48 (ckV ⟨N, ⟨A4, dl, c4⟩, ⟨A5, pl, c5⟩⟩).toArray) ∧ Hid (TRd w9 33 32 A9 (pl + 1) ((p ++ [firstS b3]).flatMap sumC)) ∧ Hid (TRd w9 5 1 A4 dl (d.map byteV)) ∧ Hid (Blk w9 (w.heap.size + 2) 48 (ckV zck).toArray) ∧ Hid (Below w.heap.size w w9) := by
        intro v9 w9 ha hg
        have hal : Below w5.heap.size w5 (w5.alloc (.cells (sumC (firstS b3)).toArray 33)) := (Below.refl _ _).alloc (Nat.le_refl _) _
        have hQa := HP5.out.below hal (Nat.le_refl _)
        have hrow : ∀ k, (Value.slice A5 pl c5).ownBlock = some k → ∃ cur, Blk (w5.alloc (.cells (sumC (firstS b3)).toArray 33)) k 33 cur := fun k e => by
          obtain ⟨cur, hc⟩ := Hty.out k e
          exact ⟨cur, hc.alloc _⟩
        have hne : ∀ {g : Nat} {cs : Array Value}, Blk (w5.alloc (.cells (sumC (firstS b3)).toArray 33)) g 48 cs → some g ≠ (Value.slice A5 pl c5).ownBlock := fun hc e => by
          obtain ⟨cur, hc'⟩ := hrow _ e.symm
          exact (hc.ne hc' (by decide)) rfl
        have hC9 := (HC5.out.alloc (.cells (sumC (firstS b3)).toArray 33)).kept hg (hne (HC5.out.alloc _))
        have hZ9 := (HZ5.out.alloc (.cells (sumC (firstS b3)).toArray 33)).kept hg (hne (HZ5.out.alloc _))
        have hP9 := (TQ.out.below hal).grown hg hrow (by decide)
        have hB9 := (HB5.out.alloc (by omega) (.cells (sumC (firstS b3)).toArray 33)).grown hg (by simp; omega) (fun k e => by have := (hQa.lt k e).1; omega)
        obtain ⟨A9, c9, rfl, hc9, hr9⟩ := ha.rd
        exact ⟨A9, c9, rfl, hc9, hC9, by rw [List.flatMap_append, List.flatMap_cons, List.flatMap_nil, List.append_nil]; exact ha.trd, hP9, hZ9, hB9⟩
      have Happ := Lib.hid happ
      have Hrl := Lib.hid (Blk.rdN (w := w5) (e := 33) (sumC (firstS b3)) (sumC_len _))
      clear happ c0 c1 e2
      go_wp2_with (first | (refine wpList_buildOne rfl 33 0 (.tmp 74) rfl _ rfl _ (built33one b3) ?_) | (refine wpList_build1 rfl 46 33 (.tmp 75) rfl (sumC (firstS b3)).toArray i33 _ 32 Tryd.underlying46 hi33 hz33 hs33 (by omega) (by omega) rfl hsz ?_) | (at_builtin; go_loud (refine wpList_appz rfl (.tmp 72) (.tmp 76) 46 rfl 33 i33 (.agg zero32) 32 32 Tryd.underlying46 hi33 hz33 hs33 hy33 rfl (by omega) W1.heap.size (by simp; omega) _ pl _ rfl (HP5.out.alloc _) (some ⟨w5.heap.size, 0, none⟩) 1 1 (sumC (firstS b3)) rfl Hrl.out (oneB _) (by unfold maxLen; omega) (by omega) ?_; intro v9 w9 ha9 hg9; obtain ⟨A9, c9, rfl, hc9, HC9, HP9, HQ9, HZ9, HB9⟩ := Happ.out v9 w9 ha9 hg9; have c2 : w9.cell? ⟨B, 2, none⟩ = some (.slice A5 pl c5) := (HC9.out.cell 2).trans rfl; have fr := HC9.out.frozen; clear ha9 hg9)))
      go_meet
      have HK := (KeptIn.refl (fun k => k ≠ B) w9).setAt (p := ⟨B, 2, none⟩) (fun h => h rfl) (.slice A9 (pl + 1) c9)
      exact ⟨⟨N, ⟨A4, dl, c4⟩, ⟨A9, pl + 1, c9⟩⟩, heap_setCell_same w9 B 2 _ 48 _ HC9.out, by rw [HvN.out], by rw [HvD.out]; exact HQ9.out.kept HC9.out (by decide) HK, hc4, by rw [HvL.out]; exact HP9.out.kept HC9.out (by decide) HK, hc9, HZ9.out.keptIn HK hZne, HB9.out.setCell hwB _⟩
    by_cases h5 : b1.toNat % 10 = 5
    · have hk : (b1.toNat : Int) % 10 = 5 := by omega
      have hvN : bentN N b1 b3 = N := by unfold bentN; rw [if_neg (by omega)]
      have hvD : bentD d b1 b2 b3 = d := by unfold bentD; rw [if_neg (by omega), if_neg (by omega), if_neg (by omega)]
      have hvL : bentL p b1 b2 b3 = p.set (b2.toNat % p.length) (setS (p.getD (b2.toNat % p.length) z32) (b3.toNat % 32) ((p.getD (b2.toNat % p.length) z32).1.getD (b3.toNat % 32) 0 ^^^ b3)) := by unfold bentL; rw [if_neg (by omega), if_pos h5]
      have HvN := Lib.hid hvN
      have HvD := Lib.hid hvD
      have HvL := Lib.hid hvL
      clear hvN hvD hvL
      by_cases hp0 : pl = 0
      · have hd1 : decide (0 < pl) = false := decide_eq_false (by omega)
        have hd2 : decide ((0 : Int) < (pl : Int)) = false := decide_eq_false (by omega)
        have hd3 : decide ((pl : Int) > 0) = false := decide_eq_false (by omega)
        have hpn : p = [] := List.length_eq_zero_iff.1 (by rw [Hpp.out, hp0])
        have hLd : bentL p b1 b2 b3 = p := by rw [HvL.out, hpn]; rfl
        have HLd := Lib.hid hLd
        clear hLd c0 c1 e2 e3
        go_wp2_with fail
        go_meet
        exact ⟨⟨N, ⟨A4, dl, c4⟩, ⟨A5, pl, c5⟩⟩, HC5.out, by rw [HvN.out], by rw [HvD.out]; exact TQ.out, hc4, by rw [HLd.out]; exact TP.out, hc5, HZ5.out, HB5.out⟩
      have hd1 : decide (0 < pl) = true := decide_eq_true (by omega)
      have hd2 : decide ((0 : Int) < (pl : Int)) = true := decide_eq_true (by omega)
      have hd3 : decide ((pl : Int) > 0) = true := decide_eq_true (by omega)
      obtain ⟨g, hg, hown⟩ : ∃ g, A5 = some ⟨g, 0, none⟩ ∧ w5.ownsRow W1.heap.size 33 32 (.slice A5 pl c5) pl (p.flatMap sumC) := by
        rcases HP5.out with ⟨h, _⟩ | h
        · omega
        · rcases h.2 with ⟨hv, h0⟩ | ⟨g, _, _, hv, _⟩
          · omega
          · cases hv
            exact ⟨g, rfl, h⟩
      subst hg
      obtain ⟨cur, hcur⟩ := ownsRow_blk hown
      obtain ⟨q0, hq0⟩ : ∃ q0, q0 = b2.toNat % pl := ⟨_, rfl⟩
      have hq : q0 < pl := by rw [hq0]; exact Nat.mod_lt _ (by omega)
      have hqi : (b2.toNat : Int) % (pl : Int) = (q0 : Int) := by rw [hq0]; omega
      obtain ⟨r0, hr0⟩ : ∃ r0, r0 = b3.toNat % 32 := ⟨_, rfl⟩
      have hr : r0 < 32 := by rw [hr0]; exact Nat.mod_lt _ (by omega)
      have hri : (b3.toNat : Int) % 32 = (r0 : Int) := by rw [hr0]; omega
      obtain ⟨bp, op, x, e, hx, hcp'⟩ := (Rd.of_own hown).flat_ sumC_len (by omega) hq
      cases e
      obtain ⟨y, hy⟩ : ∃ y, x.1[r0]? = some y := ⟨_, List.getElem?_eq_getElem (by rw [x.2]; exact hr)⟩
      have hc := hcp' r0 (byteV y) (by unfold sumC; rw [List.getElem?_map, hy]; rfl)
      rw [Nat.zero_add] at hc
      have hc' : w5.cell? ⟨g, q0 * 32 + r0, none⟩ = some (.int .u8 (y.toNat : Int)) := hc
      have hf := hcur.frozen (q0 * 32 + r0)
      have hxor : bits .xor .u8 (y.toNat : Int) (b3.toNat : Int) = ((y ^^^ b3).toNat : Int) := w8_xor y b3
      have hset := flat_set (f := sumC) sumC_len p q0 r0 x (setS x r0 (y ^^^ b3)) (byteV (y ^^^ b3)) hx hr (sumC_setS _ _ _)
      have hown' := ownsRow_set hown (g := g) rfl (q0 * 32 + r0) (byteV (y ^^^ b3))
      rw [hset] at hown'
      have hgb := (hown.lt g rfl).1
      have hLd : bentL p b1 b2 b3 = p.set q0 (setS x r0 (y ^^^ b3)) := by
        rw [HvL.out, Hpp.out, ← hq0, ← hr0, List.getD_eq_getElem?_getD, hx, Option.getD_some, List.getD_eq_getElem?_getD, hy]; rfl
      have hmq : (wrap64 (b2.toNat : Int)).tmod (pl : Int) = (q0 : Int) := by
        rw [show wrap64 (b2.toNat : Int) = (b2.toNat : Int) from by unfold wrap64; omega, Int.tmod_eq_emod_of_nonneg (by omega), hqi]
      have HLd := Lib.hid hLd
      have Hown := Lib.hid hown'
      have Hcur := Lib.hid hcur
      clear hq0 hr0 hcp' hc hx hy hset hown hown' hcur hLd c0 c1
      go_upto_region 15 with fail
      refine wp_region_quiet_tail 19 (by kernel_rfl) (List.take_append_drop _ _) rfl (by kernel_rfl) (by kernel_rfl) (by kernel_rfl) (by kernel_rfl) (by kernel_rfl) (by decide) (by kernel_rfl) ?_
      simp only [List.take_succ_cons, List.take_zero, List.drop_succ_cons, List.drop_zero]
      repeat (go_big_quiet_step (fail))
      refine wpQuiet_nil ?_
      intro wq hw'
      obtain ⟨nq2, rfl⟩ := hw'
      clear hmq
      go_wp2_with fail
      go_meet
      have hv : Value.int .u8 ((y.toNat ^^^ b3.toNat : Nat) : Int) = byteV (y ^^^ b3) := by unfold byteV; rw [UInt8.toNat_xor]
      have HK := (KeptIn.refl (fun k => k ≠ g) w5).setAt (p := ⟨g, q0 * 32 + r0, none⟩) (fun h => h rfl) (byteV (y ^^^ b3))
      have hgB := Hcur.out.ne HC5.out (by decide)
      have hgZ := Hcur.out.ne HZ5.out (by decide)
      rw [hv, show (w5.drewN nq2).setCell ⟨g, q0 * 32 + r0, none⟩ (byteV (y ^^^ b3)) = (w5.setCell ⟨g, q0 * 32 + r0, none⟩ (byteV (y ^^^ b3))).drewN nq2 from rfl]
      have hdr : Below (w5.setCell ⟨g, q0 * 32 + r0, none⟩ (byteV (y ^^^ b3))).heap.size (w5.setCell ⟨g, q0 * 32 + r0, none⟩ (byteV (y ^^^ b3))) ((w5.setCell ⟨g, q0 * 32 + r0, none⟩ (byteV (y ^^^ b3))).drewN nq2) := below_drewN (Below.refl _ _) nq2
      exact ⟨⟨N, ⟨A4, dl, c4⟩, ⟨some ⟨g, 0, none⟩, pl, c5⟩⟩, (HC5.out.keptIn HK (fun e => hgB e.symm)).drewN nq2, by rw [HvN.out], by rw [HvD.out]; exact (TQ.out.kept Hcur.out (by decide) HK).below hdr, hc4, by rw [HLd.out]; exact (TRd.of_own Hown.out).below hdr, hc5, (HZ5.out.keptIn HK (fun e => hgZ e.symm)).drewN nq2, below_drewN (HB5.out.setCell (by show w.heap.size ≤ g; omega) _) nq2⟩
    · have hq0 : ((b1.toNat : Int) % 10 == 0) = false := by rw [beq_eq_false_iff_ne]; omega
      have hq1 : ((b1.toNat : Int) % 10 == 1) = false := by rw [beq_eq_false_iff_ne]; omega
      have hq2 : ((b1.toNat : Int) % 10 == 2) = false := by rw [beq_eq_false_iff_ne]; omega
      have hq3 : ((b1.toNat : Int) % 10 == 3) = false := by rw [beq_eq_false_iff_ne]; omega
      have hq4 : ((b1.toNat : Int) % 10 == 4) = false := by rw [beq_eq_false_iff_ne]; omega
      have hq5 : ((b1.toNat : Int) % 10 == 5) = false := by rw [beq_eq_false_iff_ne]; omega
      have hvN : bentN N b1 b3 = N := by unfold bentN; rw [if_neg (by omega)]
      have hvD : bentD d b1 b2 b3 = d := by unfold bentD; rw [if_neg (by omega), if_neg (by omega), if_neg (by omega)]
      have hvL : bentL p b1 b2 b3 = p := by unfold bentL; rw [if_neg (by omega), if_neg (by omega)]
      have HvN := Lib.hid hvN
      have HvD := Lib.hid hvD
      have HvL := Lib.hid hvL
      clear hvN hvD hvL
      clear c0 c1 c2 e2 e3 h0 h1 h2 h3 h4 h5
      go_wp2_with fail
      go_meet
      exact ⟨⟨N, ⟨A4, dl, c4⟩, ⟨A5, pl, c5⟩⟩, HC5.out, by rw [HvN.out], by rw [HvD.out]; exact TQ.out, hc4, by rw [HvL.out]; exact TP.out, hc5, HZ5.out, HB5.out⟩
  case' rest => skip
  obtain ⟨x, hx, hxi, hxd, hxc, hxl, hxm, hxz, hxb⟩ := hcut
  have Hx := Lib.hid hx
  have Hxi := Lib.hid hxi
  have Hxd := Lib.hid hxd
  have Hxl := Lib.hid hxl
  have Hxz := Lib.hid hxz
  have Hxb := Lib.hid hxb
  clear hx hxi hxd hxl hxz hxb e1 e2 e3
  go_wp2_with (first | (refine wpList_load_mid rfl 48 (.tmp 5) rfl B 0 rfl (ckV x) _ (Hx.out.range) hd48 hrow48 (by kernel_rfl) ?_) | (refine wpList_store_row rfl 48 (.tmp 4) (.tmp 105) rfl (w.heap.size + 2) (ckV x).toArray rfl rfl 48 (ckV zck).toArray Hxz.out (size48 _ rfl) rfl (ck_all _) ?_))
  refine bodyPost_ret (results_cell_row rfl _ _ (w.heap.size + 2) 48 (ckV x).toArray (0, 0) d48 rfl (setRow_heap _ _ _ _ _ _ Hxz.out) hd48 (by cases d48 <;> first | rfl | exact hrow48) (size48 _ rfl)) rfl ⟨x, rfl, Hxi.out, ?_, hxc, ?_, hxm, Below.setRow Hxb.out (by omega) _⟩
  · exact Hxd.out.kept Hxz.out (by decide) ((KeptIn.refl (fun k => k ≠ w.heap.size + 2) wc).setRow (g := w.heap.size + 2) (fun h => h rfl) _)
  · exact Hxl.out.kept Hxz.out (by decide) ((KeptIn.refl (fun k => k ≠ w.heap.size + 2) wc).setRow (g := w.heap.size + 2) (fun h => h rfl) _)
end Go.Proofs.YthlecmmngldodaaDoor
