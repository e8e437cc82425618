/- Package net: Bytes. -/
import Derived.Test.YteofgkdpknaapaaN13
namespace Go.Proofs.Yteofgkdpknaapaa
open Go.RowKit Go.Sort

theorem Out.kept_of {w w' : World} {base ob L : Nat} {bs : List UInt8} (h : Out w base ob L bs) (hb : Below w.heap.size w w') : Out w' base ob L bs := by
  obtain ⟨v, h1, h2⟩ := h
  exact ⟨v, h1.below hb h1.lt, h2.below hb (Nat.le_refl _)⟩
/-- A slice that a variable holds, told apart. -/
theorem Out.sl {w : World} {base ob L : Nat} {bs : List UInt8} (h : Out w base ob L bs) : ∃ A c, L ≤ c ∧ Blk w ob 26 #[.slice A L c] ∧ AppZ w base 5 1 (.slice A L c) L (bs.map byteV) := by
  obtain ⟨v, h1, h2⟩ := h
  obtain ⟨A, c, rfl, hc, _⟩ := h2.rd
  exact ⟨A, c, hc, h1, h2⟩
theorem b8_mod {k : Int} (h0 : 0 ≤ k) (h1 : k < 256) : (b8 k).toNat = k.toNat := by
  unfold b8
  rw [UInt8.toNat_ofNat']
  omega
/-- Two rows of bytes, one behind the other, are added to a slice that a variable holds. -/
theorem Out.set {w W : World} {base ob L : Nat} {cur news : List UInt8} {A : Option Addr} {c : Nat} (hb : Below base w W) (hbo : base ≤ ob) (hB : Blk W ob 26 #[.slice A L c]) {A' : Option Addr} {n' c' : Nat} (ha : AppZ W base 5 1 (.slice A' n' c') n' ((cur ++ news).map byteV)) : Out (W.setCell ⟨ob, 0, none⟩ (.slice A' n' c')) base ob n' (cur ++ news) ∧ Below base w (W.setCell ⟨ob, 0, none⟩ (.slice A' n' c')) :=
  ⟨⟨_, heap_setCell_same W ob 0 _ _ _ hB, AppZ.setAt ha hB (by decide)⟩, hb.setCell hbo _⟩
def curS (p : Pk) (j : Nat) : List UInt8 := [b8 p.kind, b8 p.who, b8 p.n] ++ lstB p.body p.sigs.length ++ (p.sigs.take j).flatMap bytK
def curD (p : Pk) (j : Nat) : List UInt8 := [b8 p.kind, b8 p.who, b8 p.n] ++ lstB p.data p.proof.length ++ (p.proof.take j).flatMap (·.1)
theorem curS_len {p : Pk} (h : p.body.length ≤ 4096) (hs : p.sigs.length ≤ 16) (hg : ∀ x ∈ p.sigs, goodK x = true) (j : Nat) : (curS p j).length ≤ 50000 := by
  have := bytK_bound (xs := p.sigs.take j) fun x hx => hg x (List.mem_of_mem_take hx)
  have h3 : (p.sigs.take j).length ≤ 16 := by rw [List.length_take]; omega
  unfold curS lstB two
  simp only [List.length_append, List.length_cons, List.length_nil]
  omega
theorem curD_len {p : Pk} (h : p.data.length ≤ 1024) (hs : p.proof.length ≤ 8) (j : Nat) : (curD p j).length ≤ 50000 := by
  have h1 : ((p.proof.take j).flatMap (·.1)).length = 32 * (p.proof.take j).length := vals_len _
  have h3 : (p.proof.take j).length ≤ 8 := by rw [List.length_take]; omega
  unfold curD lstB two
  simp only [List.length_append, List.length_cons, List.length_nil]
  omega
theorem bytP_two {p : Pk} (h : p.kind = 2) : bytP p = curS p p.sigs.length := by
  unfold bytP restB curS
  rw [if_pos h, List.take_length]
  simp
theorem bytP_four {p : Pk} (h : p.kind = 4) : bytP p = curD p p.proof.length := by
  unfold bytP restB curD
  rw [if_neg (by omega), if_pos h, List.take_length]
  simp
theorem bytP_none {p : Pk} (h : ¬ p.kind = 2) (h4 : ¬ p.kind = 4) : bytP p = [b8 p.kind, b8 p.who, b8 p.n] := by
  unfold bytP restB
  rw [if_neg h, if_neg h4]
theorem valid_two {p : Pk} (h : validP p = true) (hk : p.kind = 2) : p.body.length ≤ 4096 ∧ p.sigs.length ≤ 16 ∧ ∀ x ∈ p.sigs, goodK x = true := by
  unfold validP at h
  rw [if_neg (by omega), if_pos hk] at h
  simp only [Bool.and_eq_true, signedP, decide_eq_true_eq, List.all_eq_true] at h
  exact ⟨h.2.2.1.1, h.2.2.1.2, h.2.2.2⟩
theorem valid_four {p : Pk} (h : validP p = true) (hk : p.kind = 4) : p.data.length ≤ 1024 ∧ p.proof.length ≤ 8 := by
  unfold validP at h
  rw [if_neg (by omega), if_neg (by omega), if_neg (by omega), if_pos hk] at h
  simp only [Bool.and_eq_true, decide_eq_true_eq] at h
  exact h.2.1.2
/-- What stays while an own slice with elements of type e is added to: what is older than base, and all blocks of other types. -/
def SB (e base : Nat) (wx W : World) : Prop := KeptIn (fun q => q < base ∨ ∃ t cs, t ≠ e ∧ Blk wx q t cs) wx W
theorem sb_lt {e base q : Nat} {wx : World} (hb : base ≤ wx.heap.size) (h : q < base ∨ ∃ t cs, t ≠ e ∧ Blk wx q t cs) : q < wx.heap.size := by
  rcases h with h | ⟨t, cs, _, h⟩
  · omega
  · exact h.lt
theorem SB.of_below {e base : Nat} {wx W : World} (hb : base ≤ wx.heap.size) (h : Below wx.heap.size wx W) : SB e base wx W := KeptIn.of_below h fun _ hq => sb_lt hb hq
theorem SB.step {e base : Nat} {wx W W' : World} (h : SB e base wx W) (hb : base ≤ wx.heap.size) (hs : wx.heap.size ≤ W.heap.size) (hw : Below W.heap.size W W') : SB e base wx W' := KeptIn.trans h (KeptIn.of_below hw fun q hq => by have := sb_lt hb hq; omega)
theorem SB.blk {e base q t : Nat} {cs : Array Value} {wx W : World} (h : SB e base wx W) (hB : Blk wx q t cs) (ht : t ≠ e) : Blk W q t cs := hB.keptIn h (.inr ⟨t, cs, ht, hB⟩)
theorem SB.grown {e base sz n : Nat} {v : Value} {xs : List Value} {wx W W' : World} (h : SB e base wx W) (hb : base ≤ wx.heap.size) (hs : wx.heap.size ≤ W.heap.size) (ha : AppZ W base e sz v n xs) (hn : 0 < n) (hg : W.grownBy W' v.ownBlock) : SB e base wx W' :=
  KeptIn.grown h hg (fun q hq => by have := sb_lt hb hq; omega) (fun q e' hq => by
    rcases hq with hq | ⟨t, cs, ht, hB⟩
    · have := (ha.lt q e').1; omega
    · exact ha.own_ne hn (h.blk hB ht) ht e'.symm)
theorem SB.below {e base : Nat} {wx W : World} (h : SB e base wx W) (_hs : base ≤ wx.heap.size) : Below base wx W := KeptIn.below h fun _ hq => .inl hq
theorem size98 (cs : Array Value) (h : cs.size = 4) : (Try.prog.info? 98).map (·.size) = some cs.size := by rw [h]; kernel_rfl
theorem und98 : ∃ d, Try.prog.underlying 98 = some d ∧ d.isRow = true := by
  obtain ⟨d, h1, h2⟩ := Option.map_eq_some_iff.1 (show (Try.prog.underlying 98).map (·.isRow) = some true by kernel_rfl)
  exact ⟨d, h1, h2⟩
def kv0 : Kv := ⟨0, 0, none, 0, 0, none, 0, 0⟩
theorem curS_succ {p : Pk} {j : Nat} {x : Ky} (h : p.sigs[j]? = some x) : curS p j ++ ([b8 x.k] ++ bytS x.s) = curS p (j + 1) := by
  unfold curS
  rw [List.take_add_one, h, List.flatMap_append, List.append_assoc, List.append_assoc, List.append_assoc]
  simp [bytK]
theorem curD_succ {p : Pk} {j : Nat} {x : Sum32} (h : p.proof[j]? = some x) : curD p j ++ x.1 = curD p (j + 1) := by
  unfold curD
  rw [List.take_add_one, h, List.flatMap_append, List.append_assoc, List.append_assoc, List.append_assoc]
  simp
/-- A slice of one byte. -/
theorem val_byte {Q : Exit → Act → World → Prop} {o : Oper} {a : Act} {W : World} {R : Value → World → Prop} (x : Operand) (ho : o.op = .buildSlice 26 1 #[(0, x)]) (b : UInt8) (hx : a.eval x = .int .u8 (b.toNat : Int))
    (h : R (.slice (some ⟨W.heap.size, 0, none⟩) 1 1) (W.alloc (.cells #[byteV b] 5))) : Val Try.prog Q o a W (fun v W' => Below W.heap.size W W' ∧ R v W') := by
  intro K hK
  unfold Oper.wp execOp
  simp only [ho, List.map_toArray, List.map_cons, List.map_nil, hx]
  simp [go_sem]
  exact hK _ _ ⟨(Below.refl _ _).alloc (Nat.le_refl _) _, h⟩
set_option maxRecDepth 100000 in
set_option maxHeartbeats 2000000 in
theorem NBytes_any (v : Pv) (p : Pk) (w : World) (hv : PvOk w v p) (hp : validP p = true) :
    Calls Try.prog 26 #[.agg (pvC v).toArray] w fun e w' => (∃ v', e = .returned v' ∧ AppZ w' w.heap.size 5 1 v' (bytP p).length ((bytP p).map byteV)) ∧ Below w.heap.size w w' := by
  have hmf : ∀ (fn : Fn) (first cap : Array Value) (w : World), (Instr.makeFunc fn first cap).run Try.prog w = .ok (.func fn first cap) w := fun _ _ _ _ => rfl
  obtain ⟨i0, hi0, hz0, hz1, hz2⟩ := info_parts info5
  have hb1 := b8_wrap v.k
  have hb2 := b8_wrap v.u
  have hb3 := b8_wrap v.n
  obtain ⟨w1, hw1⟩ : ∃ q, q = w.alloc (.cells (pvC v).toArray 39) := ⟨_, rfl⟩
  have hB1 : Below w.heap.size w w1 := by rw [hw1]; exact (Below.refl _ _).alloc (Nat.le_refl _) _
  have hX1 : Blk w1 w.heap.size 39 (pvC v).toArray := by rw [hw1]; exact Blk.new _ _ _
  have p0 : w1.cell? ⟨w.heap.size, 0, none⟩ = some (.int .i64 v.k) := (hX1.cell 0).trans rfl
  have p1 : w1.cell? ⟨w.heap.size, 1, none⟩ = some (.int .i64 v.u) := (hX1.cell 1).trans rfl
  have p2 : w1.cell? ⟨w.heap.size, 2, none⟩ = some (.int .i64 v.n) := (hX1.cell 2).trans rfl
  have hsz1 : w1.heap.size = w.heap.size + 1 := by rw [hw1]; simp
  have HV := Lib.hid hv
  have HB1 := Lib.hid hB1
  have HX1 := Lib.hid hX1
  have HW1 := Lib.hid hw1
  clear hv hB1 hX1 hw1
  go_enter Try.func26, Try.ntmps26
  go_upto_region 1 with fail
  rw [← HW1.out]
  go_upto_region 2 with fail
  obtain ⟨w3, hw3⟩ : ∃ q, q = (w1.alloc (.cells #[.int .u8 ((b8 v.k).toNat : Int), .int .u8 ((b8 v.u).toNat : Int), .int .u8 ((b8 v.n).toNat : Int)] 5)).alloc (.cells #[.slice (some ⟨w.heap.size + 1, 0, none⟩) 3 3] 26) := ⟨_, rfl⟩
  have hb13 : Below w1.heap.size w1 w3 := by rw [hw3]; exact ((Below.refl _ _).alloc (Nat.le_refl _) _).alloc (by rw [World.size_alloc]; omega) _
  obtain ⟨hvk, hvu, hvn⟩ := HV.out.1
  have hO3 : Out w3 w1.heap.size (w1.heap.size + 1) 3 [b8 p.kind, b8 p.who, b8 p.n] := by
    rw [hw3, hvk, hvu, hvn]
    have hA : AppZ (w1.alloc (.cells #[byteV (b8 p.kind), byteV (b8 p.who), byteV (b8 p.n)] 5)) w1.heap.size 5 1 (.slice (some ⟨w1.heap.size, 0, none⟩) 3 3) 3 ([b8 p.kind, b8 p.who, b8 p.n].map byteV) := .inr (World.ownsRow_lit w1 #[byteV (b8 p.kind), byteV (b8 p.who), byteV (b8 p.n)] 3 (Nat.le_refl _) (by unfold maxLen; omega) rfl)
    have := Blk.new (w1.alloc (.cells #[byteV (b8 p.kind), byteV (b8 p.who), byteV (b8 p.n)] 5)) 26 #[.slice (some ⟨w1.heap.size, 0, none⟩) 3 3]
    rw [World.size_alloc] at this
    rw [← hsz1]
    exact ⟨_, this, hA.alloc _⟩
  rw [← hw3]
  have hX3 := HX1.out.below hb13 HX1.out.lt
  have p0 : w3.cell? ⟨w.heap.size, 0, none⟩ = some (.int .i64 v.k) := (hX3.cell 0).trans rfl
  have p3 : w3.cell? ⟨w.heap.size, 3, none⟩ = some (.slice v.D v.dn v.dc) := (hX3.cell 3).trans rfl
  have p4 : w3.cell? ⟨w.heap.size, 4, none⟩ = some (.slice v.P v.pn v.pc) := (hX3.cell 4).trans rfl
  have p5 : w3.cell? ⟨w.heap.size, 5, none⟩ = some (.slice v.B v.bn v.bc) := (hX3.cell 5).trans rfl
  have p6 : w3.cell? ⟨w.heap.size, 6, none⟩ = some (.slice v.S v.sn v.sc) := (hX3.cell 6).trans rfl
  have HB3 := Lib.hid hb13
  have HO3 := Lib.hid hO3
  have HV3 := Lib.hid ((HV.out.below HB1.out).below hb13)
  have hlen := HV.out.lens
  obtain ⟨hld, hlp, hlb, hls⟩ := hlen
  have hsz3 := hb13.size
  have hmk := hmf
  have Hkv := Lib.hid hvk
  clear hvk hvu hvn hw3 hb13 hO3 hX3 HW1 hb1 hb2 hb3
  have hret : ∀ (wr : World) (cur : List UInt8), Out wr w1.heap.size (w1.heap.size + 1) cur.length cur → Below w1.heap.size w1 wr → cur = bytP p → ∃ A c, wr.cell? ⟨w.heap.size + 1 + 1, 0, none⟩ = some (.slice A cur.length c) ∧ ((∃ v', Ending.returned (.slice A cur.length c) = .returned v' ∧ AppZ wr w.heap.size 5 1 v' (bytP p).length ((bytP p).map byteV)) ∧ Below w.heap.size w wr) := fun wr cur h hb e => by
    obtain ⟨A, c, hc, h1, h2⟩ := h.sl
    rw [hsz1] at h1
    refine ⟨A, c, (h1.cell 0).trans rfl, ⟨_, rfl, ?_⟩, HB1.out.trans (hb.mono HB1.out.size)⟩
    rw [← e]
    exact h2.mono HB1.out.size
  have Hret := Lib.hid hret
  clear hret
  by_cases hk2 : v.k = 2
  · obtain ⟨hbl, hsl, hgk⟩ := valid_two hp (Hkv.out.symm.trans hk2)
    have hC := List_any w1.heap.size (w1.heap.size + 1) 3 [b8 p.kind, b8 p.who, b8 p.n] p.body v.B v.bn v.bc v.sn w3 HO3.out (by omega) (by omega) (by omega) HV3.out.2.2.2.2.1.1 (fun h0 b off e => by have h := HV.out.2.2.2.2.1.1.lt (by omega) h0 e; omega) (by omega) (by omega)
    rw [hsz1] at hC
    have hk20 : (2 : Int) = 2 := rfl
    go_wp2_with fail
    refine hC.mono ?_
    rintro e w4 ⟨rfl, hO4, hb4⟩
    rw [← hsz1] at hO4 hb4
    have hX4 : Blk w4 w.heap.size 39 (pvC v).toArray := (HX1.out.below HB3.out HX1.out.lt).below hb4 (by omega)
    have p6 : w4.cell? ⟨w.heap.size, 6, none⟩ = some (.slice v.S v.sn v.sc) := (hX4.cell 6).trans rfl
    have HB4 := Lib.hid (show Below w1.heap.size w1 w4 from HB3.out.trans hb4)
    have hcur : [b8 p.kind, b8 p.who, b8 p.n] ++ lstB p.body v.sn = curS p 0 := by unfold curS; rw [hls]; simp
    rw [hcur] at hO4
    have hcl0 : 3 + (v.bn + 3) = (curS p 0).length := by unfold curS lstB two; simp; omega
    rw [hcl0] at hO4
    have HO4 := Lib.hid hO4
    clear hO4 hb4 hX4 hC hcl0 hcur p0 p3 p4 p5
    go_upto_region 7 with fail
    go_loopw [6, 37] (fun _ v37 wr => ∃ j : Nat, v37 = .int .i64 (j : Int) ∧ j ≤ v.sn ∧ Out wr w1.heap.size (w1.heap.size + 1) (curS p j).length (curS p j) ∧ Below w1.heap.size w1 wr) (fun _ v37 _ => v.sn - (intOf v37).toNat)
    case atStart => exact ⟨0, rfl, Nat.zero_le _, HO4.out, HB4.out⟩
    case round =>
      obtain ⟨j, rfl, hj, hO, hBr⟩ := hrel
      have HO := Lib.hid hO
      have HBr := Lib.hid hBr
      have hszr := hBr.size
      clear hO hBr HO4 HB4
      by_cases hlt : j < v.sn
      · have d1 : decide ((j : Int) < (v.sn : Int)) = true := decide_eq_true (by omega)
        have hjn : (j : Int) < (v.sn : Int) := by omega
        have hj0 : (0 : Int) ≤ (j : Int) := by omega
        have hvr := (HV.out.below HB1.out).below HBr.out
        obtain ⟨ks, hT, hKs⟩ := hvr.2.2.2.2.2
        have hkl : ks.length = v.sn := hT.1.lenf kvC_len (by omega)
        obtain ⟨kv, hkv⟩ : ∃ q, ks[j]? = some q := ⟨_, List.getElem?_eq_getElem (by omega)⟩
        obtain ⟨ky, hky⟩ : ∃ q, p.sigs[j]? = some q := ⟨_, List.getElem?_eq_getElem (by omega)⟩
        have hok := hKs.2 j kv ky hkv hky
        obtain ⟨cb, co, hAe, _⟩ := hT.1.2.2 (by omega)
        have hrow : wr.rangeAt cb (co + j * 4) (kvC kv) := rd_row kvC_len (by omega) (hAe ▸ hT.1) hkv
        obtain ⟨wx, hwx⟩ : ∃ q, q = (wr.alloc (.cells (kvC kv0).toArray 98)).setRow wr.heap.size (kvC kv).toArray := ⟨_, rfl⟩
        obtain ⟨X6, hX6⟩ : ∃ q, q = wr.heap.size := ⟨_, rfl⟩
        have hN6 : Blk (wr.alloc (.cells (kvC kv0).toArray 98)) X6 98 (kvC kv0).toArray := by rw [hX6]; exact Blk.new _ _ _
        have hx6 : Blk wx X6 98 (kvC kv).toArray := by rw [hwx, hX6]; exact setRow_heap _ _ _ _ _ _ (by rw [← hX6]; exact hN6)
        have hbx : Below wr.heap.size wr wx := by rw [hwx]; exact Below.setRow ((Below.refl _ _).alloc (Nat.le_refl _) _) (Nat.le_refl _) _
        have Hrow := Lib.hid hrow
        have Hok := Lib.hid (hok.keptIn (KeptIn.of_below (S := fun q => q < wr.heap.size) hbx fun _ h => h) (fun _ _ h => h.lt))
        have HX6 := Lib.hid hx6
        have HN6 := Lib.hid hN6
        have HWX := Lib.hid hwx
        have HEX := Lib.hid hX6
        have HBx := Lib.hid (HBr.out.trans (hbx.mono hszr))
        have HOx := Lib.hid (HO.out.kept_of hbx)
        have Hky := Lib.hid hky
        have hszx : w1.heap.size ≤ wx.heap.size := HBx.out.size
        obtain ⟨i98, hi98, hz98, _, _⟩ := info_parts info98
        obtain ⟨d98, hd98, hrow98⟩ := und98
        obtain ⟨d37, hd37, hrow37⟩ := und37
        have hst6 : Blk (wr.alloc (.cells (kvC kv0).toArray 98)) wr.heap.size 98 (kvC kv0).toArray := Blk.new _ _ _
        unfold Blk at hst6
        clear hvr hT hKs hkl hkv hky hok hrow hwx hX6 hN6 hx6 hbx HO HBr
        go_upto_region 9 with (first | (refine wpList_load_mid rfl 98 (.tmp 39) rfl cb (co + j * 4) rfl (kvC kv) d98 Hrow.out hd98 hrow98 (by rw [kvC_len]; kernel_rfl) ?_) | (refine wpList_alloc0 rfl 98 rfl (kvC kv0).toArray _ i98 hi98 hz98 rfl ?_; simp only [Act.put, List.setIfInBounds_toArray, List.set_cons_succ, List.set_cons_zero]) | (refine wpList_store_row rfl 98 (.tmp 6) (.tmp 40) rfl wr.heap.size (kvC kv).toArray rfl rfl 98 (kvC kv0).toArray hst6 (size98 _ rfl) rfl (all_oneCell_toArray (kv_one kv)) ?_; rw [← HWX.out, ← HEX.out]))
        clear hAe
        obtain ⟨A1, c1, hc1, hBo, hao⟩ := HOx.out.sl
        have hL0 : 0 < (curS p j).length := by unfold curS; simp
        have hLj := curS_len hbl hsl hgk j
        obtain ⟨SS, hSS⟩ : ∃ SS : World → Prop, SS = SB 5 w1.heap.size wx := ⟨_, rfl⟩
        have hst : SS wx.drew := by rw [hSS]; exact SB.of_below hszx ((Below.refl wx.heap.size wx).drew)
        have hcl : ∀ W W', wx.heap.size ≤ W.heap.size → SS W → Below W.heap.size W W' → SS W' := fun W W' hs hW hb => by rw [hSS] at hW ⊢; exact hW.step hszx hs hb
        have hcell : ∀ W, SS W → W.cell? ⟨w.heap.size + 1 + 1, 0, none⟩ = some (.slice A1 (curS p j).length c1) := fun W hW => by
          rw [hSS] at hW
          rw [← hsz1]
          exact ((hW.blk hBo (by decide)).cell 0).trans rfl
        have hkey : ∀ W, SS W → W.cell? ⟨X6, 0, none⟩ = some (.int .i64 kv.k) := fun W hW => by
          rw [hSS] at hW
          exact ((hW.blk HX6.out (by decide)).cell 0).trans rfl
        have hrow6 : ∀ W, SS W → W.rangeAt X6 1 (sgV kv.i kv.C kv.n kv.c kv.D kv.m kv.d) := fun W hW => by
          rw [hSS] at hW
          intro q u hq
          have h := (hW.blk HX6.out (by decide)).cell (1 + q)
          rw [h, ← hq, Nat.add_comm, List.getElem?_toArray]
          rfl
        have hbk := b8_wrap kv.k
        refine wp_region_reads_tailN (S := SS) 10 [0, 1, 2, 3, 6, 7] 4 (by kernel_rfl) (List.take_append_drop _ _) rfl (by kernel_rfl) (by kernel_rfl) (by kernel_rfl) (by decide) (by kernel_rfl) (by kernel_rfl) (fun _ _ d _ _ h => by cases d <;> exact h) (by kernel_rfl) (by kernel_rfl) rfl hst ?_
        refine wpQuiet_val rfl (.slice A1 (curS p j).length c1) (fun W hW => by have h0 := hcell W hW; first | rfl | simp [execOp, go_sem, h0]) ?_
        simp only [Act.put, List.setIfInBounds_toArray, List.set_cons_succ, List.set_cons_zero]
        refine wpQuiet_val rfl (.pointer (some ⟨X6, 0, none⟩)) (fun W hW => by first | rfl | simp [execOp, go_sem]) ?_
        simp only [Act.put, List.setIfInBounds_toArray, List.set_cons_succ, List.set_cons_zero]
        refine wpQuiet_val rfl (.int .i64 kv.k) (fun W hW => by have h0 := hkey W hW; first | rfl | simp [execOp, go_sem, h0]) ?_
        simp only [Act.put, List.setIfInBounds_toArray, List.set_cons_succ, List.set_cons_zero]
        refine wpQuiet_val rfl (.int .u8 ((b8 kv.k).toNat : Int)) (fun W hW => by have h0 := hbk; first | rfl | simp [execOp, go_sem, h0]) ?_
        simp only [Act.put, List.setIfInBounds_toArray, List.set_cons_succ, List.set_cons_zero]
        refine wpQuiet_val rfl (.pointer (some ⟨X6, 1, none⟩)) (fun W hW => by first | rfl | simp [execOp, go_sem]) ?_
        simp only [Act.put, List.setIfInBounds_toArray, List.set_cons_succ, List.set_cons_zero]
        refine wpQuiet_load_mid_g (by kernel_rfl) 95 (.tmp 47) rfl X6 (1) rfl (sgV kv.i kv.C kv.n kv.c kv.D kv.m kv.d) d37 hrow6 hd37 hrow37 (by kernel_rfl) ?_
        simp only [Act.put, List.setIfInBounds_toArray, List.set_cons_succ, List.set_cons_zero]
        refine wpQuiet_nil ?_
        refine wpAnyH_val (i := 4) (by kernel_rfl) (by rfl) (by rfl) ?_
        refine valB (fun W' hb => hcl wx.drew W' (Nat.le_refl wx.heap.size) hst hb) ?_
        refine val_byte (.tmp 44) rfl (b8 kv.k) rfl ?_
        obtain ⟨w5, hw5, hb5, hx5⟩ := lay_bytes wx.drew [b8 kv.k] (by simp)
        replace hw5 : w5 = wx.drew.alloc (.cells #[byteV (b8 kv.k)] 5) := hw5
        rw [← hw5]
        replace hb5 : Below wx.heap.size wx w5 := ((Below.refl wx.heap.size wx).drew).trans hb5
        have hS5 : SS w5 := by rw [hSS]; exact SB.of_below hszx hb5
        have ha5 := hao.below hb5 (Nat.le_refl _)
        have hz5 := hb5.size
        simp only [Act.put, List.setIfInBounds_toArray, List.set_cons_succ, List.set_cons_zero]
        refine wpAnyH_val (i := 5) (by kernel_rfl) (by rfl) (by rfl) ?_
        refine val_appz rfl (.tmp 41) (.tmp 45) 26 rfl 5 i0 (.int .u8 0) 1 1 Try.underlying26 hi0 hz0 hz1 hz2 rfl (by omega) w1.heap.size (by omega) _ _ _ rfl ha5 (some ⟨wx.drew.heap.size, 0, none⟩) 1 1 ([b8 kv.k].map byteV) rfl hx5 (oneB _) (by unfold maxLen; omega) (by omega) (fun v6 w6 ha6 hg6 => ?_)
        have hS6 : SS w6 := by
          rw [hSS] at hS5 ⊢
          exact hS5.grown hszx hz5 ha5 hL0 hg6
        have hz6 : wx.heap.size ≤ w6.heap.size := Nat.le_trans hz5 hg6.size
        refine ⟨hS6, ?_⟩
        obtain ⟨A6, c6, rfl, hc6, _⟩ := ha6.rd
        simp only [Act.put, List.setIfInBounds_toArray, List.set_cons_succ, List.set_cons_zero]
        refine wpAnyH_val (i := 8) (by kernel_rfl) (by rfl) (by rfl) ?_
        obtain ⟨hk1, hk2', hk3, hk4, hk5, hk6⟩ := Hok.out
        have hkp : ∀ b cur, Blk wx b 93 cur → b < w1.heap.size ∨ ∃ t cs, t ≠ 5 ∧ Blk wx b t cs := fun b cur h => .inr ⟨_, cur, by decide, h⟩
        have hfs : formedS ky.s = true := by have h := hgk ky (List.mem_of_getElem? Hky.out); unfold goodK at h; simp at h; exact h.2
        obtain ⟨N0, _, hch, hpa, _⟩ := formedS_of hfs
        have hnl := hk5.1.lenf sumC_len (by omega)
        have hml := hk6.1.lenf sumC_len (by omega)
        have hS6' := hS6
        rw [hSS] at hS6'
        refine val_callp 46 _ _ rfl (by kernel_rfl) [.agg (sgV kv.i kv.C kv.n kv.c kv.D kv.m kv.d).toArray] rfl ((Bytes_any kv.i kv.C kv.D kv.n kv.c kv.m kv.d ky.s.ch ky.s.pa w6 (hk5.keptIn hS6' hkp).1 (hk6.keptIn hS6' hkp).1 (by omega) (by omega)).mono ?_)
        rintro e w8 ⟨⟨A8, c8, rfl, hc8, hr8⟩, hb8⟩
        left
        have hS8 := hcl _ _ hz6 hS6 hb8
        have hz8 : wx.heap.size ≤ w8.heap.size := Nat.le_trans hz6 hb8.size
        have ha8 := ha6.below hb8 (Nat.le_refl _)
        refine ⟨_, rfl, hS8, ?_⟩
        simp only [Act.put, List.setIfInBounds_toArray, List.set_cons_succ, List.set_cons_zero]
        refine wpAnyH_val (i := 9) (by kernel_rfl) (by rfl) (by rfl) ?_
        refine val_appz rfl (.tmp 46) (.tmp 49) 26 rfl 5 i0 (.int .u8 0) 1 1 Try.underlying26 hi0 hz0 hz1 hz2 rfl (by omega) w1.heap.size (by omega) _ _ _ rfl ha8 A8 (2 + 32 * kv.n + 32 * kv.m) c8 _ rfl hr8 (oneB _) (by unfold maxLen; omega) (by omega) (fun v9 w9 ha9 hg9 => ?_)
        obtain ⟨A9, c9, rfl, hc9, _⟩ := ha9.rd
        have hS9 : SS w9 := by
          rw [hSS] at hS8 ⊢
          exact hS8.grown hszx hz8 ha8 (by omega) hg9
        refine ⟨hS9, ?_⟩
        simp only [Act.put, List.setIfInBounds_toArray, List.set_cons_succ, List.set_cons_zero]
        refine wpAnyH_done (by kernel_rfl) ?_
        have hB9 : Blk w9 (w1.heap.size + 1) 26 #[.slice A1 (curS p j).length c1] := by rw [hSS] at hS9; exact hS9.blk hBo (by decide)
        have hb9 : Below w1.heap.size w1 w9 := by rw [hSS] at hS9; exact HBx.out.trans (hS9.below hszx)
        have hcs : curS p j ++ ([b8 kv.k] ++ bytS ky.s) = curS p (j + 1) := by rw [hk1]; exact curS_succ Hky.out
        have hlen : (curS p j).length + 1 + (2 + 32 * kv.n + 32 * kv.m) = (curS p (j + 1)).length := by rw [← hcs, List.length_append, List.length_append, bytS_len, hnl, hml, List.length_singleton]; omega
        have c9' : w9.cell? ⟨w.heap.size + 1 + 1, 0, none⟩ = some (.slice A1 (curS p j).length c1) := by rw [← hsz1]; exact (hB9.cell 0).trans rfl
        have z9 := hB9.frozen 0
        rw [hsz1] at z9
        rw [hlen] at ha9 hc9 ⊢
        have hE := Out.set (w := w1) (L := (curS p j).length) (cur := curS p j) (news := [b8 kv.k] ++ bytS ky.s) hb9 (Nat.le_succ _) hB9 (A' := A9) (n' := (curS p (j + 1)).length) (c' := c9) (by
          rw [List.map_append, List.map_append, ← List.append_assoc]
          rw [hk2'] at ha9
          exact ha9)
        rw [hcs] at hE
        rw [hsz1] at hE
        have HE := Lib.hid hE
        clear hE hcs hlen hb9 hB9 hS9 hg9 ha9 hc9 ha8 hS8 hr8 hb8 hz8 hS6' hS6 ha6 hg6 hz6 hS5 ha5 hz5 hb5 hx5 hw5 hkp hk1 hk2' hk3 hk4 hk5 hk6 hrow6 hkey hcell hcl hst hSS hBo hao
        go_wp2_with fail
        refine ⟨⟨j + 1, by push_cast; rfl, by omega, ?_⟩, by simp only [intOf]; omega⟩
        rw [hsz1]
        exact HE.out
      · have d1 : decide ((j : Int) < (v.sn : Int)) = false := decide_eq_false (by omega)
        have hjn : ¬ (j : Int) < (v.sn : Int) := by omega
        obtain ⟨A, c, hc, hfin⟩ := Hret.out wr (curS p j) HO.out HBr.out (by rw [bytP_two (Hkv.out.symm.trans hk2), show j = p.sigs.length by omega])
        have Hfin := Lib.hid hfin
        clear hfin
        go_wp2_with fail
        go_ret
        exact Hfin.out
  · by_cases hk4 : v.k = 4
    · obtain ⟨hdl, hpl⟩ := valid_four hp (Hkv.out.symm.trans hk4)
      have hC := List_any w1.heap.size (w1.heap.size + 1) 3 [b8 p.kind, b8 p.who, b8 p.n] p.data v.D v.dn v.dc v.pn w3 HO3.out (by omega) (by omega) (by omega) HV3.out.2.2.1.1 (fun h0 b off e => by have h := HV.out.2.2.1.1.lt (by omega) h0 e; omega) (by omega) (by omega)
      rw [hsz1] at hC
      go_wp2_with fail
      refine hC.mono ?_
      rintro e w4 ⟨rfl, hO4, hb4⟩
      rw [← hsz1] at hO4 hb4
      have hX4 : Blk w4 w.heap.size 39 (pvC v).toArray := (HX1.out.below HB3.out HX1.out.lt).below hb4 (by omega)
      have p4 : w4.cell? ⟨w.heap.size, 4, none⟩ = some (.slice v.P v.pn v.pc) := (hX4.cell 4).trans rfl
      have HB4 := Lib.hid (show Below w1.heap.size w1 w4 from HB3.out.trans hb4)
      have hcur : [b8 p.kind, b8 p.who, b8 p.n] ++ lstB p.data v.pn = curD p 0 := by unfold curD; rw [hlp]; simp
      rw [hcur] at hO4
      have hcl0 : 3 + (v.dn + 3) = (curD p 0).length := by unfold curD lstB two; simp; omega
      rw [hcl0] at hO4
      have HO4 := Lib.hid hO4
      clear hO4 hb4 hX4 hC hcl0 hcur p0 p3 p5 p6
      go_upto_region 14 with fail
      go_loopw [8, 64] (fun _ v64 wr => ∃ j : Nat, v64 = .int .i64 (j : Int) ∧ j ≤ v.pn ∧ Out wr w1.heap.size (w1.heap.size + 1) (curD p j).length (curD p j) ∧ Below w1.heap.size w1 wr) (fun _ v64 _ => v.pn - (intOf v64).toNat)
      case atStart => exact ⟨0, rfl, Nat.zero_le _, HO4.out, HB4.out⟩
      case round =>
        obtain ⟨j, rfl, hj, hO, hBr⟩ := hrel
        have HO := Lib.hid hO
        have HBr := Lib.hid hBr
        have hszr := hBr.size
        clear hO hBr HO4 HB4
        by_cases hlt : j < v.pn
        · have d1 : decide ((j : Int) < (v.pn : Int)) = true := decide_eq_true (by omega)
          have hjn : (j : Int) < (v.pn : Int) := by omega
          have hj0 : (0 : Int) ≤ (j : Int) := by omega
          have hvr := (HV.out.below HB1.out).below HBr.out
          have hT := hvr.2.2.2.1.1
          obtain ⟨x, hx⟩ : ∃ q, p.proof[j]? = some q := ⟨_, List.getElem?_eq_getElem (by omega)⟩
          obtain ⟨cb, co, hAe, _⟩ := hT.2.2 (by omega)
          have hrow : wr.rangeAt cb (co + j * 32) (sumC x) := rd_row sumC_len (by omega) (hAe ▸ hT) hx
          obtain ⟨wx, hwx⟩ : ∃ q, q = (wr.alloc (.cells zero32 93)).setRow wr.heap.size (sumC x).toArray := ⟨_, rfl⟩
          obtain ⟨X8, hX8⟩ : ∃ q, q = wr.heap.size := ⟨_, rfl⟩
          have hst8 : Blk (wr.alloc (.cells zero32 93)) wr.heap.size 93 zero32 := Blk.new _ _ _
          have hx8 : Blk wx X8 93 (sumC x).toArray := by rw [hwx, hX8]; exact setRow_heap _ _ _ _ _ _ hst8
          have hbx : Below wr.heap.size wr wx := by rw [hwx]; exact Below.setRow ((Below.refl _ _).alloc (Nat.le_refl _) _) (Nat.le_refl _) _
          unfold Blk at hst8
          have Hrow := Lib.hid hrow
          have HX8 := Lib.hid hx8
          have HWX := Lib.hid hwx
          have HEX := Lib.hid hX8
          have HBx := Lib.hid (HBr.out.trans (hbx.mono hszr))
          have HOx := Lib.hid (HO.out.kept_of hbx)
          have Hx := Lib.hid hx
          have hszx : w1.heap.size ≤ wx.heap.size := HBx.out.size
          obtain ⟨i32, hi32, hz32, hs32, hy32⟩ := info_parts info32
          clear hvr hT hx hrow hwx hX8 hx8 hbx HO HBr
          go_upto_region 16 with (first | (refine wpList_load_mid rfl 93 (.tmp 66) rfl cb (co + j * 32) rfl (sumC x) _ Hrow.out und32 rfl (by rw [sumC_len]; kernel_rfl) ?_) | (refine wpList_alloc0 rfl 93 rfl zero32 _ i32 hi32 hz32 rfl ?_; simp only [Act.put, List.setIfInBounds_toArray, List.set_cons_succ, List.set_cons_zero]) | (refine wpList_store_row rfl 93 (.tmp 8) (.tmp 67) rfl wr.heap.size (sumC x).toArray rfl rfl 93 zero32 hst8 (size32 _ (sum_size _)) ((zero32_size).trans (sum_size _).symm) (all_oneCell_toArray (oneB _)) ?_; rw [← HWX.out, ← HEX.out]))
          clear hAe
          obtain ⟨A1, c1, hc1, hBo, hao⟩ := HOx.out.sl
          have hL0 : 0 < (curD p j).length := by unfold curD; simp
          have hLj := curD_len hdl hpl j
          obtain ⟨SS, hSS⟩ : ∃ SS : World → Prop, SS = SB 5 w1.heap.size wx := ⟨_, rfl⟩
          have hst : SS wx.drew := by rw [hSS]; exact SB.of_below hszx ((Below.refl wx.heap.size wx).drew)
          have hcell : ∀ W, SS W → W.cell? ⟨w.heap.size + 1 + 1, 0, none⟩ = some (.slice A1 (curD p j).length c1) := fun W hW => by
            rw [hSS] at hW
            rw [← hsz1]
            exact ((hW.blk hBo (by decide)).cell 0).trans rfl
          have harr : Try.prog.underlying 93 = some (.array 32 5) := by kernel_rfl
          refine wp_region_reads_tailN (S := SS) 3 [0, 1] 1 (by kernel_rfl) (List.take_append_drop _ _) rfl (by kernel_rfl) (by kernel_rfl) (by kernel_rfl) (by decide) (by kernel_rfl) (by kernel_rfl) (fun _ _ d _ _ h => by cases d <;> exact h) (by kernel_rfl) (by kernel_rfl) rfl hst ?_
          refine wpQuiet_val rfl (.slice A1 (curD p j).length c1) (fun W hW => by have h0 := hcell W hW; first | rfl | simp [execOp, go_sem, h0]) ?_
          simp only [Act.put, List.setIfInBounds_toArray, List.set_cons_succ, List.set_cons_zero]
          refine wpQuiet_val rfl (.slice (some ⟨X8, 0, none⟩) 32 32) (fun W hW => by have h0 := harr; first | rfl | simp [execOp, go_sem, h0]) ?_
          simp only [Act.put, List.setIfInBounds_toArray, List.set_cons_succ, List.set_cons_zero]
          refine wpQuiet_nil ?_
          refine wpAnyH_val (i := 2) (by kernel_rfl) (by rfl) (by rfl) ?_
          have hx8r : Rd wx.drew 1 (some ⟨X8, 0, none⟩) 32 (sumC x) := by
            have h := (HX8.out.below ((Below.refl wx.heap.size wx).drew) HX8.out.lt).rd (by rw [sumC_len]; omega)
            rwa [sumC_len] at h
          have ha5 := hao.below ((Below.refl wx.heap.size wx).drew) (Nat.le_refl _)
          refine val_appz rfl (.tmp 68) (.tmp 69) 26 rfl 5 i0 (.int .u8 0) 1 1 Try.underlying26 hi0 hz0 hz1 hz2 rfl (by omega) w1.heap.size hszx _ _ _ rfl ha5 (some ⟨X8, 0, none⟩) 32 32 (sumC x) rfl hx8r (oneB _) (by unfold maxLen; omega) (by omega) (fun v9 w9 ha9 hg9 => ?_)
          have hS9 : SS w9 := by
            rw [hSS] at hst ⊢
            exact hst.grown hszx (Nat.le_refl _) ha5 hL0 hg9
          refine ⟨hS9, ?_⟩
          obtain ⟨A9, c9, rfl, hc9, _⟩ := ha9.rd
          simp only [Act.put, List.setIfInBounds_toArray, List.set_cons_succ, List.set_cons_zero]
          refine wpAnyH_done (by kernel_rfl) ?_
          have hB9 : Blk w9 (w1.heap.size + 1) 26 #[.slice A1 (curD p j).length c1] := by rw [hSS] at hS9; exact hS9.blk hBo (by decide)
          have hb9 : Below w1.heap.size w1 w9 := by rw [hSS] at hS9; exact HBx.out.trans (hS9.below hszx)
          have hcs : curD p j ++ x.1 = curD p (j + 1) := curD_succ Hx.out
          have hlen : (curD p j).length + 32 = (curD p (j + 1)).length := by rw [← hcs, List.length_append, x.2]
          have c9' : w9.cell? ⟨w.heap.size + 1 + 1, 0, none⟩ = some (.slice A1 (curD p j).length c1) := by rw [← hsz1]; exact (hB9.cell 0).trans rfl
          have z9 := hB9.frozen 0
          rw [hsz1] at z9
          rw [hlen] at ha9 hc9 ⊢
          have hE := Out.set (w := w1) (L := (curD p j).length) (cur := curD p j) (news := x.1) hb9 (Nat.le_succ _) hB9 (A' := A9) (n' := (curD p (j + 1)).length) (c' := c9) (by
            rw [List.map_append]
            exact ha9)
          rw [hcs, hsz1] at hE
          have HE := Lib.hid hE
          clear hE hcs hlen hb9 hB9 hS9 hg9 ha9 hc9 ha5 hx8r hcell hst hSS hBo hao
          go_wp2_with fail
          refine ⟨⟨j + 1, by push_cast; rfl, by omega, ?_⟩, by simp only [intOf]; omega⟩
          rw [hsz1]
          exact HE.out
        · have d1 : decide ((j : Int) < (v.pn : Int)) = false := decide_eq_false (by omega)
          have hjn : ¬ (j : Int) < (v.pn : Int) := by omega
          obtain ⟨A, c, hc, hfin⟩ := Hret.out wr (curD p j) HO.out HBr.out (by rw [bytP_four (Hkv.out.symm.trans hk4), show j = p.proof.length by omega])
          have Hfin := Lib.hid hfin
          clear hfin
          go_wp2_with fail
          go_ret
          exact Hfin.out
    · obtain ⟨A, c, hc, hfin⟩ := Hret.out w3 [b8 p.kind, b8 p.who, b8 p.n] HO3.out HB3.out (bytP_none (fun h => hk2 (Hkv.out.trans h)) (fun h => hk4 (Hkv.out.trans h))).symm
      have Hfin := Lib.hid hfin
      clear hfin
      go_wp2_with fail
      go_ret
      exact Hfin.out
end Go.Proofs.Yteofgkdpknaapaa
