/- Package net: the reference's Made. -/
import Derived.Test.YteofgkdpknaapaaN29
namespace Go.Proofs.Yteofgkdpknaapaa
open Go.RowKit Go.Sort

theorem built39ku (k u : Int) : Try.prog.built 39 [(0, .int .i64 k), (1, .int .i64 u)] = some (pkC k u 0 nl nl nl nl).toArray := by kernel_rfl
theorem AppZ.trd1 {w : World} {base n : Nat} {v : Value} {xs : List Value} (h : AppZ w base 5 1 v n xs) : ∃ A c, v = .slice A n c ∧ n ≤ c ∧ TRd w 5 1 A n xs := by
  obtain ⟨A, c, rfl, hc, hr⟩ := h.rd
  refine ⟨A, c, rfl, hc, hr, fun h0 b off e => ?_⟩
  subst e
  exact h.row h0 b rfl
theorem run_bin_opI {o : Oper} {a : Act} (op : BinOp) (t : TypeId) (x y : Operand) (t2 : TypeId) (ho : o.op = .binOp op t x y t2) (W : World) (u1 u2 u : Value) (h1 : a.eval x = u1) (h2 : a.eval y = u2) (he : (eqGuard op t x y u1 u2).run Try.prog W = .ok () W) (hr : (binOp op t u1 u2).run Try.prog W = .ok u W) : (execOp a.eval o).run Try.prog W = .ok (.value u) W :=
  run_bin_op op t x y t2 ho W (by rw [h1, h2]; exact he) (by rw [h1, h2]; exact hr)
theorem run_conv_op {o : Oper} {a : Act} (t t2 : TypeId) (x : Operand) (ho : o.op = .convert t t2 x) (W : World) (u1 u : Value) (h1 : a.eval x = u1) (hr : (convert t t2 u1).run Try.prog W = .ok u W) : (execOp a.eval o).run Try.prog W = .ok (.value u) W := by
  unfold execOp
  simp only [ho, h1, Sem.run_bind, hr, Result.andThen_ok, Sem.run_pure]
theorem conv_ib {j : Nat} (h : j < 256) (W : World) : (convert 3 5 (.int .i64 (j : Int))).run Try.prog W = .ok (.int .u8 (j : Int)) W := by
  have hw : IntKind.u8.wrap (j : Int) = (j : Int) := by rw [b8_wrap, b8_nat h]
  simp [go_sem, hw]
theorem conv_bi {j : Nat} (h : j < 256) (W : World) : (convert 5 3 (.int .u8 (j : Int))).run Try.prog W = .ok (.int .i64 (j : Int)) W := by
  have hw : IntKind.i64.wrap (j : Int) = (j : Int) := by rw [IntKind.wrap_i64]; omega
  simp [go_sem, hw]
theorem add_bb (a b : Nat) (W : World) : (binOp .add 5 (.int .u8 (a : Int)) (.int .u8 (b : Int))).run Try.prog W = .ok (.int .u8 (((a + b) % 256 : Nat) : Int)) W := by
  have hw : IntKind.u8.wrap ((a : Int) + (b : Int)) = (((a + b) % 256 : Nat) : Int) := by
    rw [show (a : Int) + (b : Int) = ((a + b : Nat) : Int) by push_cast; rfl, b8_wrap]
    congr 1
    unfold b8
    rw [UInt8.toNat_ofNat']
    omega
  simp only [binOp]
  simp [go_sem, hw]
theorem rem_16 (a : Nat) (W : World) : (binOp .rem 3 (.int .i64 (a : Int)) (.int .i64 16)).run Try.prog W = .ok (.int .i64 ((a % 16 : Nat) : Int)) W := by
  simp [binOp, go_sem]
  rw [Int.tmod_eq_emod_of_nonneg (by omega)]
theorem SB.grown' {e base : Nat} {own : Option Nat} {wx W W' : World} (h : SB e base wx W) (hb : base ≤ wx.heap.size) (hs : wx.heap.size ≤ W.heap.size) (ha : ∀ g, own = some g → base ≤ g) (hw : ∀ g, own = some g → ∃ cur, Blk W g e cur) (hg : W.grownBy W' own) : SB e base wx W' :=
  KeptIn.grown h hg (fun q hq => by have := sb_lt hb hq; omega) (fun q e' hq => by
    rcases hq with hq | ⟨t, cs, ht, hB⟩
    · have := ha q e'; omega
    · obtain ⟨cur, hc⟩ := hw q e'
      exact (h.blk hB ht).ne hc ht rfl)
theorem pkC_pv (v : Pv) : (pkC v.k v.u v.n (.slice v.D v.dn v.dc) (.slice v.P v.pn v.pc) (.slice v.B v.bn v.bc) (.slice v.S v.sn v.sc)).toArray = (pvC v).toArray := rfl
/-- A packet is laid into the result's variable. -/
theorem made_store {w W : World} {g : Nat} {v v0 : Pv} {p : Pk} (hb : Below w.heap.size w W) (hg : w.heap.size ≤ g) (hB : Blk W g 39 (pvC v0).toArray) (h : PvOk W v p) :
    Blk (W.setRow g (pvC v).toArray) g 39 (pvC v).toArray ∧ PvOk (W.setRow g (pvC v).toArray) v p ∧ Below w.heap.size w (W.setRow g (pvC v).toArray) := by
  have k1 : KeptIn (fun q => q ≠ g) W (W.setRow g (pvC v).toArray) := (KeptIn.refl (fun q => q ≠ g) W).setRow (g := g) (fun h => h rfl) _
  have hs : ∀ t, t ≠ 39 → ∀ b cur, Blk W b t cur → b ≠ g := fun t h b cur hb => hb.ne hB h
  exact ⟨setRow_heap _ _ _ _ _ _ hB, h.keptIn k1 (hs _ (by decide)) (hs _ (by decide)) (hs _ (by decide)), hb.trans (KeptIn.below k1 fun q hq => by omega)⟩
/-- What Made answers. -/
def MadeR (p : Pk) (w : World) (e : Ending) (w' : World) : Prop := (∃ v : Pv, e = .returned (.agg (pvC v).toArray) ∧ PvOk w' v p) ∧ Below w.heap.size w w'
theorem trd_nl (w : World) (e : TypeId) (sz : Nat) : TRd w e sz none 0 [] := trd_none w e sz
set_option maxRecDepth 100000 in
set_option maxHeartbeats 4000000 in
theorem Made_any (x : Rw) (D : Option Addr) (dn dc : Nat) (w : World) (hD : Rd w 1 D dn (x.data.map byteV)) (hdc : dn ≤ dc) :
    Calls Try.prog 25 #[.agg (rwC x D dn dc).toArray] w (MadeR (madeP x) w) := by
  obtain ⟨i39, hi39, hz39, hs39, hy39⟩ := info_parts info39
  obtain ⟨i0, hi0, hz0, hz1, hz2⟩ := info_parts info5
  obtain ⟨d39, hd39, hrow39⟩ := und39
  have hxl := hD.len1
  obtain ⟨w1, hw1⟩ : ∃ q, q = (w.alloc (.cells (rwC x D dn dc).toArray 55)).alloc (.cells (pvC pv0).toArray 39) := ⟨_, rfl⟩
  have hB1 : Below w.heap.size w w1 := by rw [hw1]; exact ((Below.refl _ _).alloc (Nat.le_refl _) _).alloc (by simp) _
  have hX1 : Blk w1 w.heap.size 55 (rwC x D dn dc).toArray := by rw [hw1]; exact (Blk.new _ _ _).alloc _
  have hR1 : Blk w1 (w.heap.size + 1) 39 (pvC pv0).toArray := by
    have := Blk.new (w.alloc (.cells (rwC x D dn dc).toArray 55)) 39 (pvC pv0).toArray
    rw [World.size_alloc] at this
    rw [hw1]; exact this
  have hsz1 : w1.heap.size = w.heap.size + 1 + 1 := by rw [hw1, World.size_alloc, World.size_alloc]
  obtain ⟨kq, hkq⟩ : ∃ q, q = x.k.toNat % 4 := ⟨_, rfl⟩
  have hk4 : (x.k.toNat : Int) % 4 = (kq : Int) := by rw [hkq]; omega
  obtain ⟨uq, huq⟩ : ∃ q, q = x.u.toNat % 8 := ⟨_, rfl⟩
  have hu8 : (x.u.toNat : Int) % 8 = (uq : Int) := by rw [huq]; omega
  have hkq4 : kq < 4 := by omega
  obtain ⟨K, hKd⟩ : ∃ K : Int, K = 1 + (kq : Int) := ⟨_, rfl⟩
  have hKw : 1 + (kq : Int) = K := hKd.symm
  have HKd := Lib.hid hKd
  clear hKd
  obtain ⟨w3, hw3⟩ : ∃ q, q = (w1.alloc (.cells (pvC pv0).toArray 39)).setRow w1.heap.size (pkC K (uq : Int) 0 nl nl nl nl).toArray := ⟨_, rfl⟩
  have hst3 : Blk (w1.alloc (.cells (pvC pv0).toArray 39)) w1.heap.size 39 (pvC pv0).toArray := Blk.new _ _ _
  have hP3 : Blk w3 w1.heap.size 39 (pkC K (uq : Int) 0 nl nl nl nl).toArray := by rw [hw3]; exact setRow_heap _ _ _ _ _ _ hst3
  have hb13 : Below w1.heap.size w1 w3 := by rw [hw3]; exact Below.setRow ((Below.refl _ _).alloc (Nat.le_refl _) _) (Nat.le_refl _) _
  rw [hsz1] at hst3 hP3
  unfold Blk at hst3
  have x0 : w1.cell? ⟨w.heap.size, 0, none⟩ = some (.int .u8 (x.k.toNat : Int)) := (hX1.cell 0).trans rfl
  have x1 : w1.cell? ⟨w.heap.size, 1, none⟩ = some (.int .u8 (x.u.toNat : Int)) := (hX1.cell 1).trans rfl
  obtain ⟨L, hL⟩ : ∃ L, L = min dn 60 := ⟨_, rfl⟩
  have hmin : (if (60 : Int) < (dn : Int) then (60 : Int) else (dn : Int)) = (L : Int) := by split <;> omega
  have htk := rd_pre hD (show L ≤ dn by omega)
  have htl : x.data.take L = x.data.take 60 := by
    rcases Nat.le_total dn 60 with h | h
    · rw [hL, Nat.min_eq_left h, List.take_of_length_le (by omega), List.take_of_length_le (by omega)]
    · rw [hL, Nat.min_eq_right h]
  rw [htl] at htk
  have hsl := run_slice_pre D dn dc L (by omega)
  obtain ⟨w4, hw4⟩ : ∃ q, q = w3.alloc (.cells #[] 5) := ⟨_, rfl⟩
  have hb34 : Below w3.heap.size w3 w4 := by rw [hw4]; exact (Below.refl _ _).alloc (Nat.le_refl _) _
  have ha4 : AppZ w4 w3.heap.size 5 1 (.slice (some ⟨w3.heap.size, 0, none⟩) 0 0) 0 [] := by rw [hw4]; exact AppZ.empty w3 (Nat.le_refl _) _
  have x3 : w3.cell? ⟨w.heap.size, 3, none⟩ = some (.slice D dn dc) := ((hX1.below hb13 (by omega)).cell 3).trans rfl
  have x34 : w4.cell? ⟨w.heap.size, 3, none⟩ = some (.slice D dn dc) := (((hX1.below hb13 (by omega)).below hb34 (hX1.below hb13 (by omega)).lt).cell 3).trans rfl
  have x35 : (w3.alloc (.cells #[] 5)).cell? ⟨w.heap.size, 3, none⟩ = some (.slice D dn dc) := by rw [← hw4]; exact x34
  have hs34 : w3.heap.size ≤ w4.heap.size := hb34.size
  have HW1 := Lib.hid hw1
  have HW3 := Lib.hid hw3
  have HW4 := Lib.hid hw4
  have HX4 := Lib.hid ((hX1.below hb13 (by omega)).below hb34 (hX1.below hb13 (by omega)).lt)
  have HR4 := Lib.hid ((hR1.below hb13 (by omega)).below hb34 (hR1.below hb13 (by omega)).lt)
  have HP4 := Lib.hid (hP3.below hb34 hP3.lt)
  have HB3 := Lib.hid (hB1.trans (hb13.mono hB1.size))
  have Hb34 := Lib.hid hb34
  have Ha4 := Lib.hid ha4
  have Htk := Lib.hid (((htk.below hB1).below hb13).below hb34)
  have Hkq := Lib.hid hkq
  have Huq := Lib.hid huq
  have hPl : w.heap.size + 1 + 1 < w3.heap.size := hP3.lt
  clear hw1 hw3 hw4 hX1 hR1 hP3 hB1 hb13 hb34 ha4 htk hD hkq htl hL huq
  go_enter Try.func25, Try.ntmps25
  go_upto_region 1 with (refine wpList_alloc0 rfl 39 rfl (pvC pv0).toArray _ i39 hi39 hz39 rfl ?_; simp only [Act.put, List.setIfInBounds_toArray, List.set_cons_succ, List.set_cons_zero])
  rw [← HW1.out]
  try simp only [World.size_alloc]
  go_upto_region 2 with (first | (refine wpList_buildN rfl 39 _ rfl [(0, .int .i64 K), (1, .int .i64 (uq : Int))] rfl _ (built39ku _ _) ?_) | (refine wpList_alloc0 rfl 39 rfl (pvC pv0).toArray _ i39 hi39 hz39 rfl ?_; simp only [Act.put, List.setIfInBounds_toArray, List.set_cons_succ, List.set_cons_zero]) | (refine wpList_store_row rfl 39 (.tmp 3) (.tmp 16) rfl w1.heap.size (pkC K (uq : Int) 0 nl nl nl nl).toArray rfl rfl 39 (pvC pv0).toArray (by rw [hsz1]; exact hst3) (size39p _ rfl) rfl (pk_one _ _ _) ?_; rw [← HW3.out]))
  go_upto_region 3 with (at_builtin; rw [← HW4.out]; refine wpList_appz rfl (.tmp 17) (.tmp 24) 26 rfl 5 i0 (.int .u8 0) 1 1 Try.underlying26 hi0 hz0 hz1 hz2 rfl (by omega) w3.heap.size hs34 _ _ _ rfl Ha4.out D L dc ((x.data.take 60).map byteV) rfl Htk.out (oneB _) (by unfold maxLen; omega) (by omega) ?_; intro v' w5 ha5 hg5; obtain ⟨A5, k5, rfl, hk5, ht5⟩ := ha5.trd1; have Ht5 := Lib.hid ht5; clear ht5)
  have ht5 := Ht5.out
  rw [Nat.zero_add] at ht5 hk5
  rw [List.nil_append] at ht5
  have hb45 : Below w3.heap.size w4 w5 := (Below.refl w3.heap.size w4).grown hg5 hs34 (fun g e => (Ha4.out.lt g e).1)
  have HB5 := Lib.hid (show Below w.heap.size w w5 from HB3.out.trans ((Hb34.out.mono (by have := HB3.out.size; omega)).trans (hb45.mono (by have := HB3.out.size; omega))))
  have HX5 := Lib.hid (HX4.out.below hb45 (by omega))
  have HR5 := Lib.hid (HR4.out.below hb45 (by omega))
  have HP5 := Lib.hid (HP4.out.below hb45 (by omega))
  have HT5 := Lib.hid ht5
  have p0 : w5.cell? ⟨w.heap.size + 1 + 1, 0, none⟩ = some (.int .i64 K) := (HP5.out.cell 0).trans rfl
  clear ha5 hg5 ht5 hb45 HX4 HR4 HP4 HB3 Hb34 Ha4 Htk HW1 HW3 HW4 x0 x1 x3 x34 x35 hk4 hu8 hst3 hsl hmin hKw hs34
  have hne : (w.heap.size + 1 + 1) ≠ w.heap.size + 1 := by omega
  have hLl : (x.data.take 60).length = L := HT5.out.1.len1
  have hszP : w.heap.size + 1 + 1 < w5.heap.size := HP5.out.lt
  rcases (show kq = 0 ∨ kq = 1 ∨ kq = 2 ∨ kq = 3 by omega) with hq | hq | hq | hq
  · have hKv : K = 1 := by rw [HKd.out, hq]; rfl
    have g3 : decide (K ≥ 3) = false := decide_eq_false (by omega)
    have g3' : ¬ (3 : Int) ≤ K := by omega
    have g4 : (K == 4) = false := by rw [hKv]; rfl
    have g4' : ¬ K = 4 := by omega
    have g2 : (K == 2) = false := by rw [hKv]; rfl
    have g2' : ¬ K = 2 := by omega
    have HKv := Lib.hid hKv
    have Hq := Lib.hid (show x.k.toNat % 4 = 0 from Hkq.out.symm.trans hq)
    clear hKv hq HKd
    have hok : PvOk w5 ⟨K, (uq : Int), 0, none, 0, 0, none, 0, 0, none, 0, 0, none, 0, 0⟩ (madeP x) := by
      unfold madeP
      rw [if_pos Hq.out]
      exact ⟨⟨HKv.out, by rw [Huq.out], rfl⟩, ⟨Nat.le_refl _, Nat.le_refl _, Nat.le_refl _, Nat.le_refl _⟩, trd_none _ _ _, trd_none _ _ _, trd_none _ _ _, SgsAt.nil _⟩
    obtain ⟨hRf, hOf, hBf⟩ := made_store (v := ⟨K, (uq : Int), 0, none, 0, 0, none, 0, 0, none, 0, 0, none, 0, 0⟩) HB5.out (Nat.le_succ _) HR5.out hok
    have HRf := Lib.hid hRf
    have HEf := Lib.hid (show MadeR (madeP x) w (.returned (.agg (pvC ⟨K, (uq : Int), 0, none, 0, 0, none, 0, 0, none, 0, 0, none, 0, 0⟩).toArray)) (w5.setRow (w.heap.size + 1) (pvC ⟨K, (uq : Int), 0, none, 0, 0, none, 0, 0, none, 0, 0, none, 0, 0⟩).toArray) from ⟨⟨_, rfl, hOf⟩, hBf⟩)
    have HRr := Lib.hid (HR5.out)
    have HPr := Lib.hid (Blk.range (cs := pvC ⟨K, (uq : Int), 0, none, 0, 0, none, 0, 0, none, 0, 0, none, 0, 0⟩) (HP5.out))
    clear hRf hOf hBf
    go_wp2_with (first | (refine wpList_load_mid rfl 39 (.tmp 3) rfl (w.heap.size + 1 + 1) 0 rfl (pvC ⟨K, (uq : Int), 0, none, 0, 0, none, 0, 0, none, 0, 0, none, 0, 0⟩) d39 HPr.out hd39 hrow39 (by rw [pvC_len]; kernel_rfl) ?_) | (refine wpList_store_row rfl 39 (.tmp 2) (.tmp 88) rfl (w.heap.size + 1) (pvC ⟨K, (uq : Int), 0, none, 0, 0, none, 0, 0, none, 0, 0, none, 0, 0⟩).toArray rfl rfl 39 _ HRr.out (size39 _ rfl) rfl (pv_row_one _) ?_))
    exact bodyPost_ret (results_cell_row rfl _ _ (w.heap.size + 1) 39 _ (0, 0) _ rfl HRf.out hd39 (by cases d39 <;> first | rfl | (cases hrow39)) (size39 _ rfl)) rfl HEf.out
  · have hKv : K = 2 := by rw [HKd.out, hq]; rfl
    have g3 : decide (K ≥ 3) = false := decide_eq_false (by omega)
    have g3' : ¬ (3 : Int) ≤ K := by omega
    have g4 : (K == 4) = false := by rw [hKv]; rfl
    have g4' : ¬ K = 4 := by omega
    have g2 : (K == 2) = true := by rw [hKv]; rfl
    have g2' : K = 2 := by omega
    have HKv := Lib.hid hKv
    have Hq := Lib.hid (show x.k.toNat % 4 = 1 from Hkq.out.symm.trans hq)
    clear hKv hq HKd
    clear g2'
    have p3 : w5.cell? ⟨w.heap.size + 1 + 1, 5, none⟩ = some nl := (HP5.out.cell 5).trans rfl
    have z3 := HP5.out.frozen 5
    obtain ⟨w7, hw7⟩ : ∃ q, q = w5.setCell ⟨w.heap.size + 1 + 1, 5, none⟩ (.slice A5 L k5) := ⟨_, rfl⟩
    have hP7 : Blk w7 (w.heap.size + 1 + 1) 39 (pkC K (uq : Int) 0 nl nl (.slice A5 L k5) nl).toArray := by rw [hw7]; exact heap_setCell_same w5 (w.heap.size + 1 + 1) 5 _ _ _ HP5.out
    have hk7 : KeptIn (fun q => q ≠ w.heap.size + 1 + 1) w5 w7 := by rw [hw7]; exact (KeptIn.refl _ w5).setAt (fun hk => hk rfl) _
    have hX7 := HX5.out.keptIn hk7 (by omega)
    have hR7 := HR5.out.keptIn hk7 (by omega)
    have hB7 : Below w.heap.size w w7 := HB5.out.trans (KeptIn.below hk7 fun q hq => by omega)
    have hT7 := HT5.out.keptIn hk7 (fun b cur hb => hb.ne HP5.out (by decide))
    have HW7 := Lib.hid hw7
    have HP7 := Lib.hid hP7
    have HX7 := Lib.hid hX7
    have HR7 := Lib.hid hR7
    have HB7 := Lib.hid hB7
    have HT7 := Lib.hid hT7
    have hsz7 : w.heap.size + 1 + 1 < w7.heap.size := hP7.lt
    clear hw7 hP7 hk7 hX7 hR7 hB7 hT7
    obtain ⟨i98, hi98, hz98, hs98, hy98⟩ := info_parts info98
    obtain ⟨d55, hd55, hrow55⟩ := und55
    obtain ⟨N, hN⟩ : ∃ N, N = x.m.toNat / 8 % 3 := ⟨_, rfl⟩
    obtain ⟨Q8, hQ8⟩ : ∃ q, q = x.m.toNat / 8 := ⟨_, rfl⟩
    have hq8 : IntKind.u8.wrap ((x.m.toNat : Int) / 8) = (Q8 : Int) := by rw [show (x.m.toNat : Int) / 8 = ((x.m.toNat / 8 : Nat) : Int) by omega, b8_wrap, b8_nat (by have := x.m.toNat_lt; omega), hQ8]
    have hmN : (Q8 : Int) % 3 = (N : Int) := by rw [hN, hQ8]; omega
    have HQ8 := Lib.hid hQ8
    clear hQ8
    have hN3 : N < 3 := by omega
    have HN := Lib.hid hN
    clear hN
    go_upto_region 14 with fail
    rw [← HW7.out]
    clear p3 z3 HW7 p0
    go_loopw [6] (fun v6 wr => ∃ j : Nat, v6 = .int .i64 (j : Int) ∧ j ≤ N ∧ (∃ (C' : Option Addr) (k' : Nat) (vs : List Kv), Blk wr (w.heap.size + 1 + 1) 39 (pkC K (uq : Int) 0 nl nl (.slice A5 L k5) (.slice C' j k')).toArray ∧ AppZ wr w7.heap.size 98 4 (.slice C' j k') j (vs.flatMap kvC) ∧ KvsOk wr vs (keysJ x j) ∧ (∀ g, (Value.slice C' j k').ownBlock = some g → ∃ cur, Blk wr g 98 cur)) ∧ KeptIn (fun q => q ≠ w.heap.size + 1 + 1 ∧ q < w7.heap.size) w7 wr) (fun v6 _ => N - (intOf v6).toNat)
    case atStart => exact ⟨0, rfl, Nat.zero_le _, ⟨none, 0, [], HP7.out, AppZ.nil _, KvsOk.nil _, fun g e => by cases e⟩, KeptIn.refl _ _⟩
    case round =>
      obtain ⟨j, rfl, hj, ⟨C', k', vs, hS, happ, hks, how⟩, hK⟩ := hrel
      have hXr := HX7.out.keptIn hK ⟨by omega, by omega⟩
      have xr : wr.cell? ⟨w.heap.size, 4, none⟩ = some (.int .u8 (x.m.toNat : Int)) := (hXr.cell 4).trans rfl
      have hszr : w7.heap.size ≤ wr.heap.size := hK.size
      by_cases hlt : j < N
      · have dj : decide ((j : Int) < (N : Int)) = true := decide_eq_true (by omega)
        have hjn : (j : Int) < (N : Int) := by omega
        have hjb : j < 256 := by omega
        obtain ⟨SS, hSS⟩ : ∃ SS : World → Prop, SS = SB 98 w7.heap.size wr := ⟨_, rfl⟩
        have hst : SS wr.drew := by rw [hSS]; exact SB.of_below hszr ((Below.refl wr.heap.size wr).drew)
        have hcell : ∀ W, SS W → W.cell? ⟨w.heap.size + 1 + 1, 6, none⟩ = some (.slice C' j k') := fun W hW => by
          rw [hSS] at hW
          exact ((hW.blk hS (by decide)).cell 6).trans rfl
        have hraw : ∀ W, SS W → W.cell? ⟨w.heap.size, 4, none⟩ = some (.int .u8 (x.m.toNat : Int)) := fun W hW => by
          rw [hSS] at hW
          exact ((hW.blk hXr (by decide)).cell 4).trans rfl
        have hrowX : ∀ W, SS W → W.rangeAt w.heap.size 0 (rwC x D dn dc) := fun W hW => by
          rw [hSS] at hW
          exact Blk.range (cs := rwC x D dn dc) (hW.blk hXr (by decide))
        go_upto_region 16 with fail
        refine wp_region_reads_tailN (S := SS) 17 [0, 1, 2, 3, 4, 5, 6, 7, 8, 9, 10] 6 (by kernel_rfl) (List.take_append_drop _ _) rfl (by kernel_rfl) (by kernel_rfl) (by kernel_rfl) (by decide) (by kernel_rfl) (by kernel_rfl) (fun _ _ d _ _ h => by cases d <;> exact h) (by kernel_rfl) (by kernel_rfl) rfl hst ?_
        refine wpQuiet_val rfl (.pointer (some ⟨w.heap.size + 1 + 1, 5, none⟩)) (fun W hW => by first | rfl | simp [execOp, go_sem]) ?_
        simp only [Act.put, List.setIfInBounds_toArray, List.set_cons_succ, List.set_cons_zero]
        refine wpQuiet_val rfl (.pointer (some ⟨w.heap.size + 1 + 1, 6, none⟩)) (fun W hW => by first | rfl | simp [execOp, go_sem]) ?_
        simp only [Act.put, List.setIfInBounds_toArray, List.set_cons_succ, List.set_cons_zero]
        refine wpQuiet_val rfl (.slice C' j k') (fun W hW => by have h0 := hcell W hW; first | rfl | simp [execOp, go_sem, h0]) ?_
        simp only [Act.put, List.setIfInBounds_toArray, List.set_cons_succ, List.set_cons_zero]
        refine wpQuiet_val rfl (.pointer (some ⟨w.heap.size, 4, none⟩)) (fun W hW => by first | rfl | simp [execOp, go_sem]) ?_
        simp only [Act.put, List.setIfInBounds_toArray, List.set_cons_succ, List.set_cons_zero]
        refine wpQuiet_val rfl (.int .u8 (x.m.toNat : Int)) (fun W hW => by have h0 := hraw W hW; first | rfl | simp [execOp, go_sem, h0]) ?_
        simp only [Act.put, List.setIfInBounds_toArray, List.set_cons_succ, List.set_cons_zero]
        refine wpQuiet_val rfl (.int .i64 (j : Int)) (fun W hW => by first | rfl | simp [execOp, go_sem]) ?_
        simp only [Act.put, List.setIfInBounds_toArray, List.set_cons_succ, List.set_cons_zero]
        refine wpQuiet_val rfl (.int .u8 (j : Int)) (fun W hW => run_conv_op 3 5 (.tmp 76) rfl W _ _ rfl (conv_ib hjb W)) ?_
        simp only [Act.put, List.setIfInBounds_toArray, List.set_cons_succ, List.set_cons_zero]
        refine wpQuiet_val rfl (.int .u8 (((x.m.toNat + j) % 256 : Nat) : Int)) (fun W hW => run_bin_opI .add 5 (.tmp 75) (.tmp 77) 5 rfl W _ _ _ rfl rfl rfl (add_bb _ _ W)) ?_
        simp only [Act.put, List.setIfInBounds_toArray, List.set_cons_succ, List.set_cons_zero]
        refine wpQuiet_val rfl (.int .i64 (((x.m.toNat + j) % 256 : Nat) : Int)) (fun W hW => run_conv_op 5 3 (.tmp 78) rfl W _ _ rfl (conv_bi (Nat.mod_lt _ (by omega)) W)) ?_
        simp only [Act.put, List.setIfInBounds_toArray, List.set_cons_succ, List.set_cons_zero]
        refine wpQuiet_val rfl (.int .i64 (((x.m.toNat + j) % 256 % 16 : Nat) : Int)) (fun W hW => run_bin_opI .rem 3 (.tmp 79) (.const (.int .i64 16)) 3 rfl W _ _ _ rfl rfl rfl (rem_16 _ W)) ?_
        simp only [Act.put, List.setIfInBounds_toArray, List.set_cons_succ, List.set_cons_zero]
        refine wpQuiet_load_mid_g (by kernel_rfl) 55 (.tmp 1) rfl w.heap.size (0) rfl (rwC x D dn dc) d55 hrowX hd55 hrow55 (by kernel_rfl) ?_
        simp only [Act.put, List.setIfInBounds_toArray, List.set_cons_succ, List.set_cons_zero]
        refine wpQuiet_nil ?_
        refine wpAnyH_val (i := 11) (by kernel_rfl) (by rfl) (by rfl) ?_
        refine val_callp 44 _ _ rfl (by kernel_rfl) [.agg (rwC x D dn dc).toArray] rfl ((signature_any x D dn dc wr.drew).mono ?_)
        rintro e w11 ⟨⟨C, c, E, d, rfl, hc67, hd5, hC, hE⟩, hb11⟩
        left
        replace hb11 : Below wr.heap.size wr w11 := ((Below.refl wr.heap.size wr).drew).trans hb11
        have hS11 : SS w11 := by rw [hSS]; exact SB.of_below hszr hb11
        refine ⟨_, rfl, hS11, ?_⟩
        simp only [Act.put, List.setIfInBounds_toArray, List.set_cons_succ, List.set_cons_zero]
        obtain ⟨kv, hkv⟩ : ∃ q : Kv, q = ⟨(((x.m.toNat + j) % 256 % 16 : Nat) : Int), (sigL x).i, C, 67, c, E, x.m.toNat % 5, d⟩ := ⟨_, rfl⟩
        refine wpAnyH_val (i := 12) (by kernel_rfl) (by rfl) (by rfl) ?_
        refine valB (fun W' hb => by rw [hSS] at hS11 ⊢; exact hS11.step hszr hb11.size hb) ?_
        refine val_run (.agg (kvC kv).toArray) (run_build_op 98 _ rfl [(0, .int .i64 (((x.m.toNat + j) % 256 % 16 : Nat) : Int)), (1, .agg (sgV (sigL x).i C 67 c E (x.m.toNat % 5) d).toArray)] rfl _ (by rw [hkv]; exact built98 _ _ _ _ _ _ _ _) w11) ?_
        simp only [Act.put, List.setIfInBounds_toArray, List.set_cons_succ, List.set_cons_zero]
        refine wpAnyH_val (i := 13) (by kernel_rfl) (by rfl) (by rfl) ?_
        refine valB (fun W' hb => by rw [hSS] at hS11 ⊢; exact hS11.step hszr hb11.size hb) ?_
        refine val_build1 rfl 35 98 (.tmp 83) rfl (kvC kv).toArray i98 _ 4 Try.underlying35 hi98 hz98 hs98 (by omega) (by decide) rfl rfl ?_
        obtain ⟨w13, hw13⟩ : ∃ q, q = w11.alloc (.cells (kvC kv).toArray 98) := ⟨_, rfl⟩
        rw [← hw13]
        have hb13 : Below w11.heap.size w11 w13 := by rw [hw13]; exact (Below.refl _ _).alloc (Nat.le_refl _) _
        have hX13 : Blk w13 w11.heap.size 98 (kvC kv).toArray := by rw [hw13]; exact Blk.new _ _ _
        have hS13 : SS w13 := by rw [hSS] at hS11 ⊢; exact hS11.step hszr hb11.size hb13
        have hb313 : Below wr.heap.size wr w13 := hb11.trans (hb13.mono hb11.size)
        have ha13 : AppZ w13 w7.heap.size 98 4 (.slice C' j k') j (vs.flatMap kvC) := happ.below hb313 (Nat.le_refl _)
        have how13 : ∀ g, (Value.slice C' j k').ownBlock = some g → ∃ cur, Blk w13 g 98 cur := fun g e => by obtain ⟨cur, hc⟩ := how g e; exact ⟨cur, hc.below hb313 hc.lt⟩
        have hz13 : wr.heap.size ≤ w13.heap.size := hb313.size
        simp only [Act.put, List.setIfInBounds_toArray, List.set_cons_succ, List.set_cons_zero]
        refine wpAnyH_val (i := 14) (by kernel_rfl) (by rfl) (by rfl) ?_
        refine val_appz rfl (.tmp 73) (.tmp 84) 35 rfl 98 i98 _ 4 64 Try.underlying35 hi98 hz98 hs98 hy98 rfl (by omega) w7.heap.size (by omega) (.slice C' j k') j (vs.flatMap kvC) rfl ha13 (some ⟨w11.heap.size, 0, none⟩) 1 1 (kvC kv) rfl (rd4_one hX13) (kv_one _) (by unfold maxLen; omega) (by omega) (fun v14 w14 ha14 hg14 => ?_)
        have hS14 : SS w14 := by
          rw [hSS] at hS13 ⊢
          exact hS13.grown' hszr hz13 (fun g e => (ha13.lt g e).1) how13 hg14
        have hz14 : wr.heap.size ≤ w14.heap.size := Nat.le_trans hz13 hg14.size
        refine ⟨hS14, ?_⟩
        obtain ⟨C14, k14, rfl, hk14, _⟩ := ha14.rd
        simp only [Act.put, List.setIfInBounds_toArray, List.set_cons_succ, List.set_cons_zero]
        refine wpAnyH_val (i := 15) (by kernel_rfl) (by rfl) (by rfl) ?_
        refine valB (fun W' hb => by rw [hSS] at hS14 ⊢; exact hS14.step hszr hz14 hb) ?_
        refine val_run (.pointer (some ⟨w.heap.size + 1 + 1, 5, none⟩)) (by simp [execOp, go_sem]) ?_
        simp only [Act.put, List.setIfInBounds_toArray, List.set_cons_succ, List.set_cons_zero]
        refine wpAnyH_val (i := 16) (by kernel_rfl) (by rfl) (by rfl) ?_
        refine valB (fun W' hb => by rw [hSS] at hS14 ⊢; exact hS14.step hszr hz14 hb) ?_
        refine val_run (.pointer (some ⟨w.heap.size + 1 + 1, 6, none⟩)) (by simp [execOp, go_sem]) ?_
        simp only [Act.put, List.setIfInBounds_toArray, List.set_cons_succ, List.set_cons_zero]
        refine wpAnyH_done (by kernel_rfl) ?_
        rw [hSS] at hS14
        have hP14 := hS14.blk hS (by decide)
        have c14 : w14.cell? ⟨w.heap.size + 1 + 1, 6, none⟩ = some (.slice C' j k') := (hP14.cell 6).trans rfl
        have z14 := hP14.frozen 6
        have hsumS : KeptIn (fun q => ∃ cur, Blk w13 q 93 cur) w13 w14 := KeptIn.grown (KeptIn.refl _ _) hg14 (fun q hq => by obtain ⟨cur, hc⟩ := hq; exact hc.lt) (fun g e hq => by obtain ⟨cur, hc⟩ := hq; obtain ⟨cur', hc'⟩ := how13 g e; exact hc.ne hc' (by decide) rfl)
        have hK14 : KvsOk w14 (vs ++ [kv]) (keysJ x (j + 1)) := by
          rw [keysJ_succ]
          refine KvsOk.snoc (hks.keptIn hS14 fun b cur hb => .inr ⟨_, cur, by decide, hb⟩) ?_
          rw [hkv]
          exact ⟨rfl, rfl, hc67, hd5, (hC.below hb13).keptIn hsumS (fun b cur hb => ⟨cur, hb⟩), (hE.below hb13).keptIn hsumS (fun b cur hb => ⟨cur, hb⟩)⟩
        obtain ⟨w15, hw15⟩ : ∃ q, q = w14.setCell ⟨w.heap.size + 1 + 1, 6, none⟩ (.slice C14 (j + 1) k14) := ⟨_, rfl⟩
        have hP15 : Blk w15 (w.heap.size + 1 + 1) 39 (pkC K (uq : Int) 0 nl nl (.slice A5 L k5) (.slice C14 (j + 1) k14)).toArray := by rw [hw15]; exact heap_setCell_same w14 _ 6 _ _ _ hP14
        have hk15 : KeptIn (fun q => q ≠ w.heap.size + 1 + 1) w14 w15 := by rw [hw15]; exact (KeptIn.refl _ w14).setAt (fun hk => hk rfl) _
        have ha15 : AppZ w15 w7.heap.size 98 4 (.slice C14 (j + 1) k14) (j + 1) ((vs ++ [kv]).flatMap kvC) := by
          rw [hw15, List.flatMap_append, show [kv].flatMap kvC = kvC kv by simp]
          exact ha14.setAt hP14 (by decide)
        have hK15 := hK14.keptIn hk15 (fun b cur hb => hb.ne hP14 (by decide))
        have how15 : ∀ g, (Value.slice C14 (j + 1) k14).ownBlock = some g → ∃ cur, Blk w15 g 98 cur := fun g e => by
          obtain ⟨cur, hc⟩ := ha14.row (by omega) g e
          exact ⟨cur, hc.keptIn hk15 (hc.ne hP14 (by decide))⟩
        have hKK : KeptIn (fun q => q ≠ w.heap.size + 1 + 1 ∧ q < w7.heap.size) w7 w15 := (hK.trans (hS14.mono fun q hq => .inl hq.2)).trans (hk15.mono fun q hq => hq.1)
        have HE := Lib.hid (And.intro hP15 (And.intro ha15 (And.intro hK15 (And.intro how15 hKK))))
        have HW15 := Lib.hid hw15
        clear hP15 ha15 hK15 how15 hKK hw15 hk15 hK14 hsumS hP14 hS14 ha14 hg14 ha13 how13 hS13 hb313 hX13 hb13 hw13 hC hE hb11 hS11 hcell hraw hrowX hst hSS happ hks how hK hS hXr
        go_wp2_with fail
        rw [← HW15.out]
        obtain ⟨e1, e2, e3, e4, e5⟩ := HE.out
        exact ⟨⟨j + 1, by push_cast; rfl, by omega, ⟨_, _, _, e1, e2, e3, e4⟩, e5⟩, by simp only [intOf]; omega⟩
    
      · have dj : decide ((j : Int) < (N : Int)) = false := decide_eq_false (by omega)
        have hjn : ¬ (j : Int) < (N : Int) := by omega
        obtain rfl : j = N := by omega
        have hkE : j ≤ k' := by obtain ⟨_, _, e, h, _⟩ := happ.rd; cases e; exact h
        have hRf := HR7.out.keptIn hK ⟨by omega, by omega⟩
        have hBf : Below w.heap.size w wr := HB7.out.trans (KeptIn.below hK fun q hq => ⟨by omega, by have := HB7.out.size; omega⟩)
        have hTf : TRd wr 5 1 A5 L ((x.data.take 60).map byteV) := HT7.out.keptOn hK fun h0 b off e => ⟨by obtain ⟨cur, hc⟩ := HT7.out.2 h0 b off e; exact hc.ne HP7.out (by decide), HT7.out.1.lt (by omega) h0 e⟩
        have htr : TRd wr 98 4 C' j (vs.flatMap kvC) := by
          obtain ⟨A', c', e', _, hr⟩ := happ.rd
          cases e'
          exact ⟨hr, fun h0 b off e => by subst e; exact how b rfl⟩
        have hok : PvOk wr ⟨K, (uq : Int), 0, none, 0, 0, none, 0, 0, A5, L, k5, C', j, k'⟩ (madeP x) := by
          unfold madeP
          rw [if_neg (by rw [Hq.out]; decide), if_pos Hq.out, ← HN.out]
          exact ⟨⟨HKv.out, by rw [Huq.out], rfl⟩, ⟨Nat.le_refl _, Nat.le_refl _, hk5, hkE⟩, trd_none _ _ _, trd_none _ _ _, hTf, vs, htr, hks⟩
        have Hok := Lib.hid hok
        have HSf := Lib.hid hS
        have HRf0 := Lib.hid hRf
        have HBf0 := Lib.hid hBf
        clear hok hS hRf hBf hTf htr happ hks how hK hXr
        obtain ⟨hRf, hOf, hBf⟩ := made_store (v := ⟨K, (uq : Int), 0, none, 0, 0, none, 0, 0, A5, L, k5, C', j, k'⟩) HBf0.out (Nat.le_succ _) HRf0.out Hok.out
        have HRf := Lib.hid hRf
        have HEf := Lib.hid (show MadeR (madeP x) w (.returned (.agg (pvC ⟨K, (uq : Int), 0, none, 0, 0, none, 0, 0, A5, L, k5, C', j, k'⟩).toArray)) (wr.setRow (w.heap.size + 1) (pvC ⟨K, (uq : Int), 0, none, 0, 0, none, 0, 0, A5, L, k5, C', j, k'⟩).toArray) from ⟨⟨_, rfl, hOf⟩, hBf⟩)
        have HRr := Lib.hid (HRf0.out)
        have HPr := Lib.hid (Blk.range (cs := pvC ⟨K, (uq : Int), 0, none, 0, 0, none, 0, 0, A5, L, k5, C', j, k'⟩) (HSf.out))
        clear hRf hOf hBf
        go_wp2_with (first | (refine wpList_load_mid rfl 39 (.tmp 3) rfl (w.heap.size + 1 + 1) 0 rfl (pvC ⟨K, (uq : Int), 0, none, 0, 0, none, 0, 0, A5, L, k5, C', j, k'⟩) d39 HPr.out hd39 hrow39 (by rw [pvC_len]; kernel_rfl) ?_) | (refine wpList_store_row rfl 39 (.tmp 2) (.tmp 88) rfl (w.heap.size + 1) (pvC ⟨K, (uq : Int), 0, none, 0, 0, none, 0, 0, A5, L, k5, C', j, k'⟩).toArray rfl rfl 39 _ HRr.out (size39 _ rfl) rfl (pv_row_one _) ?_))
        exact bodyPost_ret (results_cell_row rfl _ _ (w.heap.size + 1) 39 _ (0, 0) _ rfl HRf.out hd39 (by cases d39 <;> first | rfl | (cases hrow39)) (size39 _ rfl)) rfl HEf.out
  · have hKv : K = 3 := by rw [HKd.out, hq]; rfl
    have g3 : decide (K ≥ 3) = true := decide_eq_true (by omega)
    have g3' : (3 : Int) ≤ K := by omega
    have g4 : (K == 4) = false := by rw [hKv]; rfl
    have g4' : ¬ K = 4 := by omega
    have g2 : (K == 2) = false := by rw [hKv]; rfl
    have g2' : ¬ K = 2 := by omega
    have HKv := Lib.hid hKv
    have Hq := Lib.hid (show x.k.toNat % 4 = 2 from Hkq.out.symm.trans hq)
    clear hKv hq HKd
    have x2 : w5.cell? ⟨w.heap.size, 2, none⟩ = some (.int .u8 (x.n.toNat : Int)) := (HX5.out.cell 2).trans rfl
    have hnw : IntKind.i64.wrap (x.n.toNat : Int) = (x.n.toNat : Int) := by rw [IntKind.wrap_i64]; have := x.n.toNat_lt; omega
    have p2 : w5.cell? ⟨w.heap.size + 1 + 1, 2, none⟩ = some (.int .i64 0) := (HP5.out.cell 2).trans rfl
    have z2 := HP5.out.frozen 2
    obtain ⟨w6, hw6⟩ : ∃ q, q = w5.setCell ⟨w.heap.size + 1 + 1, 2, none⟩ (.int .i64 (x.n.toNat : Int)) := ⟨_, rfl⟩
    have hP6 : Blk w6 (w.heap.size + 1 + 1) 39 (pkC K (uq : Int) (x.n.toNat : Int) nl nl nl nl).toArray := by rw [hw6]; exact heap_setCell_same w5 (w.heap.size + 1 + 1) 2 _ _ _ HP5.out
    have hk6 : KeptIn (fun q => q ≠ w.heap.size + 1 + 1) w5 w6 := by rw [hw6]; exact (KeptIn.refl _ w5).setAt (fun hk => hk rfl) _
    have hX6 := HX5.out.keptIn hk6 (by omega)
    have hR6 := HR5.out.keptIn hk6 (by omega)
    have hB6 : Below w.heap.size w w6 := HB5.out.trans (KeptIn.below hk6 fun q hq => by omega)
    have hT6 := HT5.out.keptIn hk6 (fun b cur hb => hb.ne HP5.out (by decide))
    have q0 : w6.cell? ⟨w.heap.size + 1 + 1, 0, none⟩ = some (.int .i64 K) := (hP6.cell 0).trans rfl
    have HW6 := Lib.hid hw6
    have HP6 := Lib.hid hP6
    have HX6 := Lib.hid hX6
    have HR6 := Lib.hid hR6
    have HB6 := Lib.hid hB6
    have HT6 := Lib.hid hT6
    clear hw6 hP6 hk6 hX6 hR6 hB6 hT6
    go_upto_region 5 with fail
    rw [← HW6.out]
    clear x2 hnw p2 z2 p0 HW6
    have hok : PvOk w6 ⟨K, (uq : Int), (x.n.toNat : Int), none, 0, 0, none, 0, 0, none, 0, 0, none, 0, 0⟩ (madeP x) := by
      unfold madeP
      rw [if_neg (by rw [Hq.out]; decide), if_neg (by rw [Hq.out]; decide), if_pos Hq.out]
      exact ⟨⟨HKv.out, by rw [Huq.out], rfl⟩, ⟨Nat.le_refl _, Nat.le_refl _, Nat.le_refl _, Nat.le_refl _⟩, trd_none _ _ _, trd_none _ _ _, trd_none _ _ _, SgsAt.nil _⟩
    obtain ⟨hRf, hOf, hBf⟩ := made_store (v := ⟨K, (uq : Int), (x.n.toNat : Int), none, 0, 0, none, 0, 0, none, 0, 0, none, 0, 0⟩) HB6.out (Nat.le_succ _) HR6.out hok
    have HRf := Lib.hid hRf
    have HEf := Lib.hid (show MadeR (madeP x) w (.returned (.agg (pvC ⟨K, (uq : Int), (x.n.toNat : Int), none, 0, 0, none, 0, 0, none, 0, 0, none, 0, 0⟩).toArray)) (w6.setRow (w.heap.size + 1) (pvC ⟨K, (uq : Int), (x.n.toNat : Int), none, 0, 0, none, 0, 0, none, 0, 0, none, 0, 0⟩).toArray) from ⟨⟨_, rfl, hOf⟩, hBf⟩)
    have HRr := Lib.hid (HR6.out)
    have HPr := Lib.hid (Blk.range (cs := pvC ⟨K, (uq : Int), (x.n.toNat : Int), none, 0, 0, none, 0, 0, none, 0, 0, none, 0, 0⟩) (HP6.out))
    clear hRf hOf hBf
    go_wp2_with (first | (refine wpList_load_mid rfl 39 (.tmp 3) rfl (w.heap.size + 1 + 1) 0 rfl (pvC ⟨K, (uq : Int), (x.n.toNat : Int), none, 0, 0, none, 0, 0, none, 0, 0, none, 0, 0⟩) d39 HPr.out hd39 hrow39 (by rw [pvC_len]; kernel_rfl) ?_) | (refine wpList_store_row rfl 39 (.tmp 2) (.tmp 88) rfl (w.heap.size + 1) (pvC ⟨K, (uq : Int), (x.n.toNat : Int), none, 0, 0, none, 0, 0, none, 0, 0, none, 0, 0⟩).toArray rfl rfl 39 _ HRr.out (size39 _ rfl) rfl (pv_row_one _) ?_))
    exact bodyPost_ret (results_cell_row rfl _ _ (w.heap.size + 1) 39 _ (0, 0) _ rfl HRf.out hd39 (by cases d39 <;> first | rfl | (cases hrow39)) (size39 _ rfl)) rfl HEf.out
  · have hKv : K = 4 := by rw [HKd.out, hq]; rfl
    have g3 : decide (K ≥ 3) = true := decide_eq_true (by omega)
    have g3' : (3 : Int) ≤ K := by omega
    have g4 : (K == 4) = true := by rw [hKv]; rfl
    have g4' : K = 4 := by omega
    have g2 : (K == 2) = false := by rw [hKv]; rfl
    have g2' : ¬ K = 2 := by omega
    have HKv := Lib.hid hKv
    have Hq := Lib.hid (show x.k.toNat % 4 = 3 from Hkq.out.symm.trans hq)
    clear hKv hq HKd
    clear g4'
    have x2 : w5.cell? ⟨w.heap.size, 2, none⟩ = some (.int .u8 (x.n.toNat : Int)) := (HX5.out.cell 2).trans rfl
    have hnw : IntKind.i64.wrap (x.n.toNat : Int) = (x.n.toNat : Int) := by rw [IntKind.wrap_i64]; have := x.n.toNat_lt; omega
    have p2 : w5.cell? ⟨w.heap.size + 1 + 1, 2, none⟩ = some (.int .i64 0) := (HP5.out.cell 2).trans rfl
    have z2 := HP5.out.frozen 2
    obtain ⟨w6, hw6⟩ : ∃ q, q = w5.setCell ⟨w.heap.size + 1 + 1, 2, none⟩ (.int .i64 (x.n.toNat : Int)) := ⟨_, rfl⟩
    have hP6 : Blk w6 (w.heap.size + 1 + 1) 39 (pkC K (uq : Int) (x.n.toNat : Int) nl nl nl nl).toArray := by rw [hw6]; exact heap_setCell_same w5 (w.heap.size + 1 + 1) 2 _ _ _ HP5.out
    have hk6 : KeptIn (fun q => q ≠ w.heap.size + 1 + 1) w5 w6 := by rw [hw6]; exact (KeptIn.refl _ w5).setAt (fun hk => hk rfl) _
    have hX6 := HX5.out.keptIn hk6 (by omega)
    have hR6 := HR5.out.keptIn hk6 (by omega)
    have hB6 : Below w.heap.size w w6 := HB5.out.trans (KeptIn.below hk6 fun q hq => by omega)
    have hT6 := HT5.out.keptIn hk6 (fun b cur hb => hb.ne HP5.out (by decide))
    have q0 : w6.cell? ⟨w.heap.size + 1 + 1, 0, none⟩ = some (.int .i64 K) := (hP6.cell 0).trans rfl
    have HW6 := Lib.hid hw6
    have HP6 := Lib.hid hP6
    have HX6 := Lib.hid hX6
    have HR6 := Lib.hid hR6
    have HB6 := Lib.hid hB6
    have HT6 := Lib.hid hT6
    clear hw6 hP6 hk6 hX6 hR6 hB6 hT6
    go_upto_region 5 with fail
    rw [← HW6.out]
    clear x2 hnw p2 z2 p0 HW6
    have p3 : w6.cell? ⟨w.heap.size + 1 + 1, 3, none⟩ = some nl := (HP6.out.cell 3).trans rfl
    have z3 := HP6.out.frozen 3
    obtain ⟨w7, hw7⟩ : ∃ q, q = w6.setCell ⟨w.heap.size + 1 + 1, 3, none⟩ (.slice A5 L k5) := ⟨_, rfl⟩
    have hP7 : Blk w7 (w.heap.size + 1 + 1) 39 (pkC K (uq : Int) (x.n.toNat : Int) (.slice A5 L k5) nl nl nl).toArray := by rw [hw7]; exact heap_setCell_same w6 (w.heap.size + 1 + 1) 3 _ _ _ HP6.out
    have hk7 : KeptIn (fun q => q ≠ w.heap.size + 1 + 1) w6 w7 := by rw [hw7]; exact (KeptIn.refl _ w6).setAt (fun hk => hk rfl) _
    have hX7 := HX6.out.keptIn hk7 (by omega)
    have hR7 := HR6.out.keptIn hk7 (by omega)
    have hB7 : Below w.heap.size w w7 := HB6.out.trans (KeptIn.below hk7 fun q hq => by omega)
    have hT7 := HT6.out.keptIn hk7 (fun b cur hb => hb.ne HP6.out (by decide))
    have HW7 := Lib.hid hw7
    have HP7 := Lib.hid hP7
    have HX7 := Lib.hid hX7
    have HR7 := Lib.hid hR7
    have HB7 := Lib.hid hB7
    have HT7 := Lib.hid hT7
    have hsz7 : w.heap.size + 1 + 1 < w7.heap.size := hP7.lt
    clear hw7 hP7 hk7 hX7 hR7 hB7 hT7
    obtain ⟨i32, hi32, hz32, hs32, hy32⟩ := info_parts info32
    obtain ⟨N, hN⟩ : ∃ N, N = x.m.toNat % 9 := ⟨_, rfl⟩
    have hm9 : (x.m.toNat : Int) % 9 = (N : Int) := by rw [hN]; omega
    have hN9 : N < 9 := by omega
    have HN := Lib.hid hN
    clear hN
    go_upto_region 8 with fail
    rw [← HW7.out]
    clear p3 z3 q0 HW7 g4
    go_loopw [5] (fun v5 wr => ∃ j : Nat, v5 = .int .i64 (j : Int) ∧ j ≤ N ∧ (∃ (C' : Option Addr) (k' : Nat), Blk wr (w.heap.size + 1 + 1) 39 (pkC K (uq : Int) (x.n.toNat : Int) (.slice A5 L k5) (.slice C' j k') nl nl).toArray ∧ AppZ wr w7.heap.size 93 32 (.slice C' j k') j ((shL j x.m).flatMap sumC)) ∧ KeptIn (fun q => q ≠ w.heap.size + 1 + 1 ∧ q < w7.heap.size) w7 wr) (fun v5 _ => N - (intOf v5).toNat)
    case atStart => exact ⟨0, rfl, Nat.zero_le _, ⟨none, 0, HP7.out, AppZ.nil _⟩, KeptIn.refl _ _⟩
    case round =>
      obtain ⟨j, rfl, hj, ⟨C', k', hS, happ⟩, hK⟩ := hrel
      have hXr := HX7.out.keptIn hK ⟨by omega, by omega⟩
      have xr : wr.cell? ⟨w.heap.size, 4, none⟩ = some (.int .u8 (x.m.toNat : Int)) := (hXr.cell 4).trans rfl
      have cS : wr.cell? ⟨w.heap.size + 1 + 1, 4, none⟩ = some (.slice C' j k') := (hS.cell 4).trans rfl
      have cS0 : wr.cell? ⟨w.heap.size + 1 + 1, 0, none⟩ = some (.int .i64 K) := (hS.cell 0).trans rfl
      have hszr : w7.heap.size ≤ wr.heap.size := hK.size
      by_cases hlt : j < N
      · have dj : decide ((j : Int) < (N : Int)) = true := decide_eq_true (by omega)
        have hjn : (j : Int) < (N : Int) := by omega
        have hjb : j < 256 := by omega
        obtain ⟨sh, hsh⟩ : ∃ q, q = shB (UInt8.ofNat j) x.m := ⟨_, rfl⟩
        have hbuilt : Try.prog.built 93 [(0, .int .u8 (j : Int)), (1, .int .u8 (x.m.toNat : Int))] = some (sumC sh).toArray := by
          have h := builtSum2 (UInt8.ofNat j) x.m
          rw [u8_nat hjb, ← hsh] at h
          exact h
        obtain ⟨w9, hw9⟩ : ∃ q, q = wr.alloc (.cells (sumC sh).toArray 93) := ⟨_, rfl⟩
        have hb9 : Below wr.heap.size wr w9 := by rw [hw9]; exact (Below.refl _ _).alloc (Nat.le_refl _) _
        have hX9 : Blk w9 wr.heap.size 93 (sumC sh).toArray := by rw [hw9]; exact Blk.new _ _ _
        have hs9 : w7.heap.size ≤ w9.heap.size := by have := hb9.size; omega
        have Ha9 := Lib.hid (happ.below hb9 (Nat.le_refl _))
        have Hr9 := Lib.hid (rd32_one hX9)
        have HS9 := Lib.hid (hS.below hb9 hS.lt)
        have HW9 := Lib.hid hw9
        have HK9 := Lib.hid (hK.trans (KeptIn.of_below (S := fun q => q ≠ w.heap.size + 1 + 1 ∧ q < w7.heap.size) hb9 fun q hq => by omega))
        have Hsh := Lib.hid (show (shL (j + 1) x.m).flatMap sumC = (shL j x.m).flatMap sumC ++ sumC sh by rw [shL_succ, List.flatMap_append, hsh]; simp)
        clear hS happ hK hXr hsh hw9 hb9 hX9
        go_wp2_with (first | (refine wpList_buildN rfl 93 _ rfl [(0, .int .u8 (j : Int)), (1, .int .u8 (x.m.toNat : Int))] rfl _ hbuilt ?_) | (refine wpList_build1s rfl 34 93 (.tmp 52) rfl (sumC sh).toArray i32 _ 32 Try.underlying34 hi32 hz32 hs32 (by omega) (by decide) rfl (sum_size _) ?_; rw [← HW9.out]) | (at_builtin; refine wpList_appz rfl (.tmp 47) (.tmp 53) 34 rfl 93 i32 _ 32 32 Try.underlying34 hi32 hz32 hs32 hy32 rfl (by omega) w7.heap.size hs9 _ _ _ rfl Ha9.out (some ⟨wr.heap.size, 0, none⟩) 1 1 (sumC sh) rfl Hr9.out (oneB _) (by unfold maxLen; omega) (by omega) ?_; intro v' w10 ha10 hg10; obtain ⟨C7, k7, rfl, hk7, _⟩ := ha10.rd; have hS10 := HS9.out.kept hg10 (fun e => (by have := (Ha9.out.lt (w.heap.size + 1 + 1) e.symm).1; omega)); have c10 : w10.cell? ⟨w.heap.size + 1 + 1, 4, none⟩ = some (.slice C' j k') := (hS10.cell 4).trans rfl; have z10 := hS10.frozen 4; have HS10 := Lib.hid hS10; have Ha10 := Lib.hid ha10; have Hg10 := Lib.hid hg10; clear hS10 ha10 hg10))
        have hS11 := heap_setCell_same w10 (w.heap.size + 1 + 1) 4 _ _ (.slice C7 (j + 1) k7) HS10.out
        have hk11 : KeptIn (fun q => q ≠ w.heap.size + 1 + 1 ∧ q < w7.heap.size) w7 (w10.setCell ⟨w.heap.size + 1 + 1, 4, none⟩ (.slice C7 (j + 1) k7)) := (KeptIn.grown HK9.out Hg10.out (fun q hq => by omega) (fun q e hq => by have := (Ha9.out.lt q e).1; omega)).trans ((KeptIn.refl (fun q => q ≠ w.heap.size + 1 + 1 ∧ q < w7.heap.size) w10).setAt (fun hk => hk.1 rfl) _)
        refine ⟨⟨j + 1, by push_cast; rfl, by omega, ⟨C7, k7, hS11, ?_⟩, hk11⟩, by simp only [intOf]; omega⟩
        rw [Hsh.out]
        exact AppZ.setAt Ha10.out HS10.out (by decide)
      · have dj : decide ((j : Int) < (N : Int)) = false := decide_eq_false (by omega)
        have hjn : ¬ (j : Int) < (N : Int) := by omega
        obtain rfl : j = N := by omega
        have hkE : j ≤ k' := by obtain ⟨_, _, e, h, _⟩ := happ.rd; cases e; exact h
        have hRf := HR7.out.keptIn hK ⟨by omega, by omega⟩
        have hBf : Below w.heap.size w wr := HB7.out.trans (KeptIn.below hK fun q hq => ⟨by omega, by have := HB7.out.size; omega⟩)
        have hTf : TRd wr 5 1 A5 L ((x.data.take 60).map byteV) := HT7.out.keptOn hK fun h0 b off e => ⟨by obtain ⟨cur, hc⟩ := HT7.out.2 h0 b off e; exact hc.ne HP7.out (by decide), HT7.out.1.lt (by omega) h0 e⟩
        have hok : PvOk wr ⟨K, (uq : Int), (x.n.toNat : Int), A5, L, k5, C', j, k', none, 0, 0, none, 0, 0⟩ (madeP x) := by
          unfold madeP
          rw [if_neg (by rw [Hq.out]; decide), if_neg (by rw [Hq.out]; decide), if_neg (by rw [Hq.out]; decide), ← HN.out]
          exact ⟨⟨HKv.out, by rw [Huq.out], rfl⟩, ⟨hk5, hkE, Nat.le_refl _, Nat.le_refl _⟩, hTf, happ.trd, trd_none _ _ _, SgsAt.nil _⟩
        have Hok := Lib.hid hok
        have HSf := Lib.hid hS
        have HRf0 := Lib.hid hRf
        have HBf0 := Lib.hid hBf
        clear hok hS hRf hBf hTf happ hK hXr
        obtain ⟨hRf, hOf, hBf⟩ := made_store (v := ⟨K, (uq : Int), (x.n.toNat : Int), A5, L, k5, C', j, k', none, 0, 0, none, 0, 0⟩) HBf0.out (Nat.le_succ _) HRf0.out Hok.out
        have HRf := Lib.hid hRf
        have HEf := Lib.hid (show MadeR (madeP x) w (.returned (.agg (pvC ⟨K, (uq : Int), (x.n.toNat : Int), A5, L, k5, C', j, k', none, 0, 0, none, 0, 0⟩).toArray)) (wr.setRow (w.heap.size + 1) (pvC ⟨K, (uq : Int), (x.n.toNat : Int), A5, L, k5, C', j, k', none, 0, 0, none, 0, 0⟩).toArray) from ⟨⟨_, rfl, hOf⟩, hBf⟩)
        have HRr := Lib.hid (HRf0.out)
        have HPr := Lib.hid (Blk.range (cs := pvC ⟨K, (uq : Int), (x.n.toNat : Int), A5, L, k5, C', j, k', none, 0, 0, none, 0, 0⟩) (HSf.out))
        clear hRf hOf hBf
        go_wp2_with (first | (refine wpList_load_mid rfl 39 (.tmp 3) rfl (w.heap.size + 1 + 1) 0 rfl (pvC ⟨K, (uq : Int), (x.n.toNat : Int), A5, L, k5, C', j, k', none, 0, 0, none, 0, 0⟩) d39 HPr.out hd39 hrow39 (by rw [pvC_len]; kernel_rfl) ?_) | (refine wpList_store_row rfl 39 (.tmp 2) (.tmp 88) rfl (w.heap.size + 1) (pvC ⟨K, (uq : Int), (x.n.toNat : Int), A5, L, k5, C', j, k', none, 0, 0, none, 0, 0⟩).toArray rfl rfl 39 _ HRr.out (size39 _ rfl) rfl (pv_row_one _) ?_))
        exact bodyPost_ret (results_cell_row rfl _ _ (w.heap.size + 1) 39 _ (0, 0) _ rfl HRf.out hd39 (by cases d39 <;> first | rfl | (cases hrow39)) (size39 _ rfl)) rfl HEf.out
end Go.Proofs.Yteofgkdpknaapaa
