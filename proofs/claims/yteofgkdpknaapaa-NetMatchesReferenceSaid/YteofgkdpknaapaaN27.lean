/- Package net: Forge. -/
import Derived.Test.YteofgkdpknaapaaN26
namespace Go.Proofs.Yteofgkdpknaapaa
open Go.RowKit Go.Sort

set_option maxRecDepth 100000 in
set_option maxHeartbeats 2000000 in
theorem Forge_any (A : Option Addr) (n c : Nat) (ps : List Pk) (i a : Int) (y : UInt8) (w : World) (h : PksAt w A n ps) (hnc : n ≤ c) (hn : n ≤ 10000) (hval : ∀ x ∈ ps, validP x = true) :
    Calls Try.prog 16 #[netV A n c, .int .i64 i, .int .i64 a, .int .u8 (y.toNat : Int)] w (NetQ (forgeP ps i a y) w) := by
  have hpl := h.len
  obtain ⟨w1, hw1⟩ : ∃ q, q = (w.alloc (.cells #[.slice A n c] 30)).alloc (.cells #[.slice none 0 0] 30) := ⟨_, rfl⟩
  have hb1 : Below w.heap.size w w1 := by rw [hw1]; exact ((Below.refl _ _).alloc (Nat.le_refl _) _).alloc (by rw [World.size_alloc]; omega) _
  have hX1 : Blk w1 w.heap.size 30 #[.slice A n c] := by rw [hw1]; exact (Blk.new w _ _).alloc _
  have hN1 : Blk w1 (w.heap.size + 1) 30 #[.slice none 0 0] := by
    rw [hw1]
    have h := Blk.new (w.alloc (.cells #[.slice A n c] 30)) 30 #[.slice none 0 0]
    rwa [World.size_alloc] at h
  have hh := has_any A n c i w1
  unfold netV at hh
  obtain ⟨d30, hd30, hrow30⟩ := und30
  obtain ⟨d39, hd39, hrow39⟩ := und39
  obtain ⟨i39, hi39, hz39, hs39, hy39⟩ := info_parts info39
  have HW1 := Lib.hid hw1
  have HB1 := Lib.hid hb1
  have HX1 := Lib.hid hX1
  have HN1 := Lib.hid hN1
  have H := Lib.hid h
  clear hw1 hb1 hX1 hN1 h
  unfold netV
  go_enter Try.func16, Try.ntmps16
  go_upto_region 1 with fail
  rw [← HW1.out]
  go_wp2_with (refine wpList_load_mid rfl 30 (.tmp 4) rfl w.heap.size 0 rfl [.slice A n c] d30 (net_row HX1.out) hd30 hrow30 (by kernel_rfl) ?_)
  refine hh.mono ?_
  rintro e w2 ⟨rfl, hb2⟩
  have hX2 := HX1.out.below hb2 HX1.out.lt
  have hN2 := HN1.out.below hb2 HN1.out.lt
  have hB2 : Below w.heap.size w w2 := HB1.out.trans (hb2.mono HB1.out.size)
  have hK2 := (H.out.below HB1.out).below hb2
  have c2 : w2.cell? ⟨w.heap.size, 0, none⟩ = some (.slice A n c) := (hX2.cell 0).trans rfl
  by_cases hi : 0 ≤ i ∧ i < (n : Int)
  rotate_left
  · rw [decide_eq_false hi]
    have e : forgeP ps i a y = (ps, 310) := by unfold forgeP; rw [if_neg (by rw [hpl]; exact hi)]
    obtain ⟨hBe, hEe⟩ := net_store (A := A) (n := n) (c := c) (e := 310) hB2 (Nat.le_succ _) hN2 hK2 hnc
    rw [← e] at hEe
    clear e
    have HBe := Lib.hid hBe
    have HEe := Lib.hid hEe
    clear hBe hEe
    go_wp2_with (first | (refine wpList_load_mid rfl 30 (.tmp 4) rfl w.heap.size 0 rfl [.slice A n c] d30 (net_row hX2) hd30 hrow30 (by kernel_rfl) ?_) | (refine wpList_store_row rfl 30 (.tmp 8) (.tmp 18) rfl (w.heap.size + 1) #[.slice A n c] rfl rfl 30 _ hN2 (size30 _ rfl) rfl (net_one _ _ _) ?_))
    exact bodyPost_ret (results_row_tmp (p := 8) (u := 9) rfl _ _ (w.heap.size + 1) _ _ (0, 0) d30 rfl HBe.out hd30 hrow30 (size30 _ rfl)) rfl HEe.out
  rw [decide_eq_true hi]
  obtain ⟨k, rfl⟩ := Int.eq_ofNat_of_zero_le hi.1
  have hkn : k < n := by omega
  have hk0 : (0 : Int) ≤ (k : Int) := by omega
  have hkn' : (k : Int) < (n : Int) := by omega
  obtain ⟨vs, ht, hp⟩ := hK2
  have hK2 : PksAt w2 A n ps := ⟨vs, ht, hp⟩
  have hvl := ht.1.lenf pvC_len (by omega)
  obtain ⟨v, hv⟩ : ∃ q, vs[k]? = some q := ⟨_, List.getElem?_eq_getElem (by omega)⟩
  obtain ⟨p, hpk⟩ : ∃ q, ps[k]? = some q := ⟨_, List.getElem?_eq_getElem (by omega)⟩
  have hpv := hp.2 k v p hv hpk
  have hval1 := hval p (List.mem_of_getElem? hpk)
  obtain ⟨cb, co, hAe, hjunk⟩ := ht.1.2.2 (by omega)
  clear hjunk
  subst hAe
  have hrow := rd_row pvC_len (by omega) ht.1 hv
  have hfp : forgeP ps (k : Int) a y = ((if 0 ≤ a ∧ a < ((bytP p).length : Int) then (match parP ((bytP p).set a.toNat ((bytP p).getD a.toNat 0 ^^^ y)) with | some q => (ps.set k q, 0) | none => (ps.eraseIdx k, 0)) else (ps, 1)) : List Pk × Int) := by
    unfold forgeP
    rw [if_pos ⟨hk0, by rw [hpl]; exact hkn'⟩, Int.toNat_natCast, List.getD_eq_getElem?_getD, hpk]
    rfl
  obtain ⟨bs, hbs⟩ : ∃ q, q = bytP p := ⟨_, rfl⟩
  rw [← hbs] at hfp
  have hL3 : 3 ≤ bs.length := by rw [hbs]; unfold bytP; simp
  have hcall := NBytes_any v p w2 hpv hval1
  rw [← hbs] at hcall
  have Hbs := Lib.hid hbs
  clear hbs
  have Hrow := Lib.hid hrow
  have Hfp := Lib.hid hfp
  clear ht hp hv hpv hrow hfp hh
  go_wp2_with (refine wpList_load_mid rfl 39 (.tmp 22) rfl cb (co + k * 7) rfl (pvC v) d39 Hrow.out hd39 hrow39 (by rw [pvC_len]; kernel_rfl) ?_)
  refine hcall.mono ?_
  rintro e w3 ⟨⟨vb, rfl, hab⟩, hb3⟩
  obtain ⟨Ab, kb, rfl, hkb, hrb⟩ := hab.rd
  obtain ⟨g, o, rfl, hjunk⟩ := hrb.2.2 (by omega)
  clear hjunk
  have hg2 : w2.heap.size ≤ g := (hab.lt g rfl).1
  obtain ⟨gcur, hgB⟩ := hab.row (by omega) g rfl
  have hX3 := hX2.below hb3 hX2.lt
  have hN3 := hN2.below hb3 hN2.lt
  have hB3 : Below w.heap.size w w3 := hB2.trans (hb3.mono hB2.size)
  have hK3 := hK2.below hb3
  have c3 : w3.cell? ⟨w.heap.size, 0, none⟩ = some (.slice (some ⟨cb, co, none⟩) n c) := (hX3.cell 0).trans rfl
  clear hab hcall c2 hb2
  by_cases ha0 : 0 ≤ a
  rotate_left
  · have da : decide (a < 0) = true := decide_eq_true (by omega)
    have da1 : a < 0 := by omega
    have e : forgeP ps (k : Int) a y = (ps, 1) := by rw [Hfp.out, if_neg (fun h => ha0 h.1)]
    clear Hfp
    obtain ⟨hBe, hEe⟩ := net_store (A := some ⟨cb, co, none⟩) (n := n) (c := c) (e := 1) hB3 (Nat.le_succ _) hN3 hK3 hnc
    rw [← e] at hEe
    clear e
    have HBe := Lib.hid hBe
    have HEe := Lib.hid hEe
    clear hBe hEe
    go_wp2_with (first | (refine wpList_load_mid rfl 30 (.tmp 4) rfl w.heap.size 0 rfl [.slice (some ⟨cb, co, none⟩) n c] d30 (net_row hX3) hd30 hrow30 (by kernel_rfl) ?_) | (refine wpList_store_row rfl 30 (.tmp 8) (.tmp 33) rfl (w.heap.size + 1) #[.slice (some ⟨cb, co, none⟩) n c] rfl rfl 30 _ hN3 (size30 _ rfl) rfl (net_one _ _ _) ?_))
    exact bodyPost_ret (results_row_tmp (p := 8) (u := 9) rfl _ _ (w.heap.size + 1) _ _ (0, 0) d30 rfl HBe.out hd30 hrow30 (size30 _ rfl)) rfl HEe.out
  obtain ⟨k2, rfl⟩ := Int.eq_ofNat_of_zero_le ha0
  have da : decide ((k2 : Int) < 0) = false := decide_eq_false (by omega)
  have da1 : ¬ (k2 : Int) < 0 := by omega
  by_cases hal : k2 < bs.length
  rotate_left
  · have db : decide ((k2 : Int) ≥ (bs.length : Int)) = true := decide_eq_true (by omega)
    have db1 : (bs.length : Int) ≤ (k2 : Int) := by omega
    have e : forgeP ps (k : Int) (k2 : Int) y = (ps, 1) := by rw [Hfp.out, if_neg (fun h => hal (by omega))]
    clear Hfp
    obtain ⟨hBe, hEe⟩ := net_store (A := some ⟨cb, co, none⟩) (n := n) (c := c) (e := 1) hB3 (Nat.le_succ _) hN3 hK3 hnc
    rw [← e] at hEe
    clear e
    have HBe := Lib.hid hBe
    have HEe := Lib.hid hEe
    clear hBe hEe
    go_wp2_with (first | (refine wpList_load_mid rfl 30 (.tmp 4) rfl w.heap.size 0 rfl [.slice (some ⟨cb, co, none⟩) n c] d30 (net_row hX3) hd30 hrow30 (by kernel_rfl) ?_) | (refine wpList_store_row rfl 30 (.tmp 8) (.tmp 33) rfl (w.heap.size + 1) #[.slice (some ⟨cb, co, none⟩) n c] rfl rfl 30 _ hN3 (size30 _ rfl) rfl (net_one _ _ _) ?_))
    exact bodyPost_ret (results_row_tmp (p := 8) (u := 9) rfl _ _ (w.heap.size + 1) _ _ (0, 0) d30 rfl HBe.out hd30 hrow30 (size30 _ rfl)) rfl HEe.out
  have db : decide ((k2 : Int) ≥ (bs.length : Int)) = false := decide_eq_false (by omega)
  have db1 : ¬ (bs.length : Int) ≤ (k2 : Int) := by omega
  have db2 : (k2 : Int) < (bs.length : Int) := by omega
  have dk0 : (0 : Int) ≤ (k2 : Int) := by omega
  obtain ⟨x, hx⟩ : ∃ x, bs[k2]? = some x := ⟨_, List.getElem?_eq_getElem hal⟩
  have cx : w3.cell? ⟨g, o + k2, none⟩ = some (.int .u8 (x.toNat : Int)) := by
    obtain ⟨b', o', e, hc⟩ := hrb.2.2 (by omega)
    cases e
    exact hc k2 (byteV x) (by rw [List.getElem?_map, hx]; rfl)
  have zx := hgB.frozen (o + k2)
  have hxor : bits .xor .u8 (x.toNat : Int) (y.toNat : Int) = ((x.toNat ^^^ y.toNat : Nat) : Int) := by rw [w8x_xor, UInt8.toNat_xor]
  have hr4 := rd_setB hrb hal (x ^^^ y)
  obtain ⟨w4, hw4⟩ : ∃ q, q = w3.setCell ⟨g, o + k2, none⟩ (.int .u8 ((x.toNat ^^^ y.toNat : Nat) : Int)) := ⟨_, rfl⟩
  have hk4 : KeptIn (fun q => q ≠ g) w3 w4 := by rw [hw4]; exact (KeptIn.refl _ w3).setAt (fun hk => hk rfl) _
  rw [show byteV (x ^^^ y) = .int .u8 ((x.toNat ^^^ y.toNat : Nat) : Int) by unfold byteV; rw [UInt8.toNat_xor], ← hw4] at hr4
  have hb34 : Below w2.heap.size w3 w4 := KeptIn.below hk4 fun q hq => by omega
  have hb24 : Below w2.heap.size w2 w4 := hb3.trans hb34
  have hX4 := hX2.below hb24 hX2.lt
  have hN4 := hN2.below hb24 hN2.lt
  have hB4 : Below w.heap.size w w4 := hB2.trans (hb24.mono hB2.size)
  have hK4 := hK2.below hb24
  have hseq : (bs.set k2 (x ^^^ y)) = bs.set k2 (bs.getD k2 0 ^^^ y) := by rw [List.getD_eq_getElem?_getD, hx]; rfl
  have hfq : forgeP ps (k : Int) (k2 : Int) y = ((match parP (bs.set k2 (x ^^^ y)) with | some q => (ps.set k q, 0) | none => (ps.eraseIdx k, 0)) : List Pk × Int) := by
    rw [Hfp.out, if_pos ⟨dk0, db2⟩, Int.toNat_natCast, hseq]
  obtain ⟨bs', hbs'⟩ : ∃ q, q = bs.set k2 (x ^^^ y) := ⟨_, rfl⟩
  have hbl : bs'.length = bs.length := by rw [hbs', List.length_set]
  rw [← hbs'] at hr4 hfq
  have Hfq := Lib.hid hfq
  have Hr4 := Lib.hid hr4
  have HW4 := Lib.hid hw4
  have HX4 := Lib.hid hX4
  have HN4 := Lib.hid hN4
  have HB4 := Lib.hid hB4
  have HK4 := Lib.hid hK4
  clear Hfp hfq hr4 hw4 hX4 hN4 hB4 hK4 hseq hbs' hb34 hb24 hk4 hrb hgB hX3 hN3 hB3 hK3 hX2 hN2 hB2 hK2 hb3 hval1 Hrow hx
  go_upto_region 7 with fail
  rw [← HW4.out]
  have hpc := NParse_pv (some ⟨g, o, none⟩) bs.length kb bs' w4 Hr4.out hkb
  clear HW4 cx zx c3
  go_wp2_with fail
  refine hpc.mono ?_
  rintro e w5 ⟨⟨q, rfl, hq⟩, hb5⟩
  obtain ⟨er, her⟩ : ∃ q, q = (ansP bs').2 := ⟨_, rfl⟩
  obtain ⟨qp, hqp⟩ : ∃ q, q = (ansP bs').1 := ⟨_, rfl⟩
  rw [← her]
  rw [← hqp] at hq
  obtain ⟨w6, hw6⟩ : ∃ z, z = (w5.alloc (.cells (pvC pv0).toArray 39)).setRow w5.heap.size (pvC q).toArray := ⟨_, rfl⟩
  obtain ⟨X6, hX6⟩ : ∃ z, z = w5.heap.size := ⟨_, rfl⟩
  have hst6 : Blk (w5.alloc (.cells (pvC pv0).toArray 39)) w5.heap.size 39 (pvC pv0).toArray := Blk.new _ _ _
  have hx6 : Blk w6 X6 39 (pvC q).toArray := by rw [hw6, hX6]; exact setRow_heap _ _ _ _ _ _ hst6
  have hb6 : Below w5.heap.size w5 w6 := by rw [hw6]; exact Below.setRow ((Below.refl _ _).alloc (Nat.le_refl _) _) (Nat.le_refl _) _
  have hb46 : Below w4.heap.size w4 w6 := hb5.trans (hb6.mono hb5.size)
  have hXl : w4.heap.size ≤ X6 := by rw [hX6]; exact hb5.size
  unfold Blk at hst6
  have HX6 := Lib.hid (HX4.out.below hb46 HX4.out.lt)
  have HN6 := Lib.hid (HN4.out.below hb46 HN4.out.lt)
  have HB6 := Lib.hid (HB4.out.trans (hb46.mono HB4.out.size))
  have HK6 := Lib.hid (HK4.out.below hb46)
  have HQ6 := Lib.hid (hq.below hb6)
  have Hx6 := Lib.hid hx6
  have HW6 := Lib.hid hw6
  have HEX := Lib.hid hX6
  have Her := Lib.hid her
  have Hqp := Lib.hid hqp
  have c6 : w6.cell? ⟨w.heap.size, 0, none⟩ = some (.slice (some ⟨cb, co, none⟩) n c) := (HX6.out.cell 0).trans rfl
  clear hq hx6 hb5 hb6 hb46 hw6 hX6 her hqp HX4 HN4 HB4 HK4 Hr4 hpc
  go_upto_region 8 with (first | (refine wpList_alloc0 rfl 39 rfl (pvC pv0).toArray _ i39 hi39 hz39 rfl ?_; simp only [Act.put, List.setIfInBounds_toArray, List.set_cons_succ, List.set_cons_zero]) | (refine wpList_store_row rfl 39 (.tmp 11) (.tmp 44) rfl w5.heap.size (pvC q).toArray rfl rfl 39 (pvC pv0).toArray hst6 (size39 _ rfl) rfl (pv_row_one _) ?_; rw [← HW6.out, ← HEX.out]))
  clear hst6 HW6 HEX
  cases hpar : parP bs' with
  | none =>
    have he : er = 310 := by rw [Her.out]; unfold ansP; rw [hpar]
    subst he
    have hfr : forgeP ps (k : Int) (k2 : Int) y = (ps.eraseIdx k, 0) := by rw [Hfq.out, hpar]
    have hwo := without_any (some ⟨cb, co, none⟩) n c k ps w6 HK6.out hkn (by omega)
    unfold netV at hwo
    have Hfr := Lib.hid hfr
    clear hfr hpar
    go_wp2_with (refine wpList_load_mid rfl 30 (.tmp 4) rfl w.heap.size 0 rfl [.slice (some ⟨cb, co, none⟩) n c] d30 (net_row HX6.out) hd30 hrow30 (by kernel_rfl) ?_)
    refine hwo.mono ?_
    rintro e w7 ⟨⟨A7, c7, rfl, hc7, hq7, hf7⟩, hb7⟩
    obtain ⟨hBe, hEe⟩ := net_store (e := 0) (HB6.out.trans (hb7.mono HB6.out.size)) (Nat.le_succ _) (HN6.out.below hb7 HN6.out.lt) hq7 hc7
    rw [← Hfr.out] at hEe
    have HBe := Lib.hid hBe
    have HEe := Lib.hid hEe
    have HN7 := Lib.hid (HN6.out.below hb7 HN6.out.lt)
    clear hBe hEe hq7 hf7 hb7 hwo
    go_wp2_with (refine wpList_store_row rfl 30 (.tmp 8) (.tmp 50) rfl (w.heap.size + 1) #[.slice A7 (n - 1) c7] rfl rfl 30 _ HN7.out (size30 _ rfl) rfl (net_one _ _ _) ?_)
    exact bodyPost_ret (results_row_tmp (p := 8) (u := 9) rfl _ _ (w.heap.size + 1) _ _ (0, 0) d30 rfl HBe.out hd30 hrow30 (size30 _ rfl)) rfl HEe.out
  | some qq =>
    have he : er = 0 := by rw [Her.out]; unfold ansP; rw [hpar]
    have hqq : qp = qq := by rw [Hqp.out]; unfold ansP; rw [hpar]
    subst he hqq
    have hfr : forgeP ps (k : Int) (k2 : Int) y = (ps.set k qp, 0) := by rw [Hfq.out, hpar]
    obtain ⟨vs, ht, hp⟩ := HK6.out
    have hcl := PClone_any (some ⟨cb, co, none⟩) n c vs w6 ht.1 (by omega)
    have Hfr := Lib.hid hfr
    have Hp := Lib.hid hp
    clear hfr hpar ht hp
    go_wp2_with fail
    refine hcl.mono ?_
    rintro e w7 ⟨⟨v7, rfl, ha7⟩, hb7⟩
    obtain ⟨A7, c7, rfl, hc7, ht7⟩ := ha7.trd7
    obtain ⟨g7, o7, rfl, hjunk⟩ := ht7.1.2.2 (by omega)
    clear hjunk
    have hg7 : w6.heap.size ≤ g7 := (ha7.lt g7 rfl).1
    obtain ⟨w8, hw8⟩ : ∃ z, z = w7.alloc (.cells #[.slice (some ⟨g7, o7, none⟩) n c7] 30) := ⟨_, rfl⟩
    have hb78 : Below w7.heap.size w7 w8 := by rw [hw8]; exact (Below.refl _ _).alloc (Nat.le_refl _) _
    have hb68 : Below w6.heap.size w6 w8 := hb7.trans (hb78.mono hb7.size)
    have hV8 : Blk w8 w7.heap.size 30 #[.slice (some ⟨g7, o7, none⟩) n c7] := by rw [hw8]; exact Blk.new _ _ _
    have ht8 := ht7.below hb78
    obtain ⟨cur8, hB8⟩ := ht8.2 (by omega) g7 o7 rfl
    have hN8 := HN6.out.below hb68 HN6.out.lt
    have hx8 := Hx6.out.below hb68 Hx6.out.lt
    obtain ⟨w9, hw9⟩ : ∃ z, z = w8.setCells g7 (o7 + k * 7) (pvC q) := ⟨_, rfl⟩
    have hk9 : KeptIn (fun x => x ≠ g7) w8 w9 := by rw [hw9]; exact kept_setCells7 _ _ _ _
    have ht9 := trd_set7 (q := q) ht8 hkn
    rw [← hw9] at ht9
    have hS : ∀ t, t ≠ 39 → ∀ b cur, Blk w8 b t cur → b ≠ g7 := fun t h b cur hb => hb.ne hB8 h
    have hV9 := hV8.keptIn hk9 (hS _ (by decide) _ _ hV8)
    have hN9 := hN8.keptIn hk9 (hS _ (by decide) _ _ hN8)
    have hp9 := ((Hp.out.below hb68).set k (HQ6.out.below hb68)).keptIn hk9 (hS _ (by decide)) (hS _ (by decide)) (hS _ (by decide))
    have hB9 : Below w.heap.size w w9 := HB6.out.trans ((hb68.mono HB6.out.size).trans (KeptIn.below hk9 fun x hx => by have := HB6.out.size; omega))
    obtain ⟨hBe, hEe⟩ := net_store (e := 0) hB9 (Nat.le_succ _) hN9 (PksAt.of ht9 hp9) hc7
    rw [← Hfr.out] at hEe
    have HBe := Lib.hid hBe
    have HEe := Lib.hid hEe
    have HN9 := Lib.hid hN9
    have HV9 := Lib.hid (net_row hV9)
    have Hx8 := Lib.hid (hx8.range)
    have Hth := Lib.hid (trd_there ht8 hkn)
    have HW8 := Lib.hid hw8
    have HW9 := Lib.hid hw9
    have cV : w8.cell? ⟨w7.heap.size, 0, none⟩ = some (.slice (some ⟨g7, o7, none⟩) n c7) := (hV8.cell 0).trans rfl
    clear hBe hEe hN9 hV9 hx8 hw8 hw9 hp9 hB9 ht9 hS hk9 hN8 hB8 ht8 hV8 hb68 hb78 ht7 ha7 hb7 hcl
    go_upto_region 11 with fail
    rw [← HW8.out]
    go_upto_region 12 with (first | (refine wpList_load_mid rfl 39 (.tmp 11) rfl X6 0 rfl (pvC q) d39 Hx8.out hd39 hrow39 (by rw [pvC_len]; kernel_rfl) ?_) | (refine wpList_store_mid rfl 39 (.tmp 59) (.tmp 58) rfl g7 (o7 + k * 7) (pvC q).toArray rfl rfl Hth.out (size39 _ rfl) (pv_row_one _) ?_; rw [show (pvC q).toArray.toList = pvC q from rfl, ← HW9.out]))
    go_wp2_with (first | (refine wpList_load_mid rfl 30 (.tmp 13) rfl w7.heap.size 0 rfl [.slice (some ⟨g7, o7, none⟩) n c7] d30 HV9.out hd30 hrow30 (by kernel_rfl) ?_) | (refine wpList_store_row rfl 30 (.tmp 8) (.tmp 60) rfl (w.heap.size + 1) #[.slice (some ⟨g7, o7, none⟩) n c7] rfl rfl 30 _ HN9.out (size30 _ rfl) rfl (net_one _ _ _) ?_))
    exact bodyPost_ret (results_row_tmp (p := 8) (u := 9) rfl _ _ (w.heap.size + 1) _ _ (0, 0) d30 rfl HBe.out hd30 hrow30 (size30 _ rfl)) rfl HEe.out
end Go.Proofs.Yteofgkdpknaapaa
