/- Package sign's reference: Sign. -/
import Derived.Test.YtfdhiilhjfbehaaDoorS14
namespace Go.Proofs.YtfdhiilhjfbehaaDoor
open Go.RowKit Go.Sort

theorem val_build1 {P : Program} {Q : Exit → Act → World → Prop} {o : Oper} {a : Act} {W : World} {R : Value → World → Prop} (hg : o.guard = none) (t e : TypeId) (x : Operand) (ho : o.op = .buildSlice t 1 #[(0, x)])
    (cells : Array Value) (ie : TypeInfo) (z : Value) (s : Nat) (hu : P.underlying t = some (.slice e)) (hie : P.info? e = some ie) (hz : ie.zero = some z) (hs : ie.size = s) (hpos : 0 < s) (hsm : s ≤ 2 ^ 24)
    (hx : a.eval x = .agg cells) (hc : cells.size = s) (h : R (.slice (some ⟨W.heap.size, 0, none⟩) 1 1) (W.alloc (.cells cells e))) : Val P Q o a W (fun v W' => Below W.heap.size W W' ∧ R v W') := fun K hK => by
  have hgen := step_build1 (ops := #[]) (E := True) (K := K) (Q := Q) hg t e x ho cells ie z s hu hie hz hs hpos hsm hx hc (hK _ _ ⟨(Below.refl _ _).alloc (Nat.le_refl _) _, h⟩)
  rwa [if_pos (by simp [Region.wanted, hg])] at hgen
def spLit (T : TypeId) (cs : List Value) : Spec := ⟨fun v W => ∃ B, v = .slice (some ⟨B, 0, none⟩) 1 1 ∧ Blk W B T cs.toArray, fun _ _ _ ⟨B, h1, h2⟩ hb => ⟨B, h1, h2.below hb h2.lt⟩⟩
theorem rd32_one {W : World} {B T : Nat} {x : Sum32} (h : Blk W B T (sumC x).toArray) : Rd W 32 (some ⟨B, 0, none⟩) 1 (sumC x) := by
  have := h.rd (by rw [sumC_len]; omega)
  rw [sumC_len] at this
  exact ⟨by rw [sumC_len], by omega, fun h0 => by
    obtain ⟨b, o, e, hc⟩ := this.2.2 (by omega)
    exact ⟨b, o, e, hc⟩⟩
theorem sign_of {k : Sc} {H N : Nat} (bs : List UInt8) (hv : validS k = true) (e3 : k.n = (N : Int)) (e6 : k.h.toNat = H) (hN : N < 2 ^ H) : signS k bs = (⟨(N : Int), chainK k.s (UInt8.ofNat N) (digS bs) 67, proofL ((keysS k.s (2 ^ H)).map leafS) N⟩, ⟨k.s, k.h, (N : Int) + 1⟩, 0) := by
  have hne : ¬ (N : Int) = 2 ^ H := fun e => by
    have : N = 2 ^ H := by exact_mod_cast e
    omega
  unfold signS
  generalize (67 : Nat) = n67
  rw [if_pos hv, e3, e6, if_neg hne, Int.toNat_natCast]
theorem sec_set (k : Sc) (n : Int) : (secV k).toArray.setIfInBounds 33 (.int .i64 n) = (secV ⟨k.s, k.h, n⟩).toArray := by
  rw [List.setIfInBounds_toArray]
  unfold secV
  rw [List.set_append_right _ _ (by rw [sumC_len]; omega), sumC_len]
  rfl
theorem trd_nilS (w : World) : TRd w 26 32 none 0 (([] : List Sum32).flatMap sumC) := ⟨⟨rfl, Nat.zero_le _, fun h => absurd h (by omega)⟩, fun h => absurd h (by omega)⟩
theorem rd_nil (w : World) : Rd w 32 none 0 (([] : List Sum32).flatMap sumC) := ⟨rfl, Nat.zero_le _, fun h => absurd h (by omega)⟩

set_option maxRecDepth 100000 in
set_option maxHeartbeats 1000000 in
theorem RSign_any (k : Sc) (A : Option Addr) (len cap : Nat) (bs : List UInt8) (w : World) (hr : Rd w 1 A len (bs.map byteV)) (hlen : len ≤ 8796093021000) :
    Calls Tryd.prog 15 #[.agg (secV k).toArray, .slice A len cap] w fun e w' => (∃ (C : Option Addr) (n c : Nat) (D : Option Addr) (m d : Nat), e = .returned (.agg (sgnV (signS k bs).1.i C n c D m d (signS k bs).2.1 (signS k bs).2.2).toArray) ∧ n ≤ c ∧ m ≤ d ∧ TRd w' 26 32 C n ((signS k bs).1.ch.flatMap sumC) ∧ TRd w' 26 32 D m ((signS k bs).1.pa.flatMap sumC)) ∧ Below w.heap.size w w' := by
  obtain ⟨i32, hi32, hz32, hs32, hy32⟩ := info_parts info32
  obtain ⟨i37, hi37, hz37, _, _⟩ := info_parts info37
  obtain ⟨i39, hi39, hz39, _, _⟩ := info_parts info39
  obtain ⟨d28, hd28, hrow28⟩ := und28
  obtain ⟨d37, hd37, hrow37⟩ := und37
  obtain ⟨d39, hd39, hrow39⟩ := und39
  go_enter Tryd.func15, Tryd.ntmps15
  go_upto_region 1 with (refine wpList_alloc0 rfl 39 rfl (sgnV 0 none 0 0 none 0 0 sc0 0).toArray _ i39 hi39 hz39 rfl ?_; simp only [Act.put, List.setIfInBounds_toArray, List.set_cons_succ, List.set_cons_zero])
  obtain ⟨w1, hw1⟩ : ∃ w1, w1 = (w.alloc (.cells (secV k).toArray 28)).alloc (.cells (sgnV 0 none 0 0 none 0 0 sc0 0).toArray 39) := ⟨_, rfl⟩
  have hB1 : Below w.heap.size w w1 := by rw [hw1]; exact ((Below.refl _ _).alloc (Nat.le_refl _) _).alloc (by simp) _
  have hX1 : Blk w1 w.heap.size 28 (secV k).toArray := by rw [hw1]; exact (Blk.new _ _ _).alloc _
  have hZ1 : Blk w1 (w.heap.size + 1) 39 (sgnV 0 none 0 0 none 0 0 sc0 0).toArray := by
    have := Blk.new (w.alloc (.cells (secV k).toArray 28)) 39 (sgnV 0 none 0 0 none 0 0 sc0 0).toArray
    rw [World.size_alloc] at this
    rw [hw1]; exact this
  rw [← hw1]
  try rw [World.size_alloc]
  clear hw1
  have hsz1 := hB1.size
  have HB := Lib.hid hB1
  have HX := Lib.hid hX1
  have HZ := Lib.hid hZ1
  have Hrg := Lib.hid (Blk.range hX1)
  clear hB1 hX1 hZ1
  go_upto_region 2 with (refine wpList_load_mid rfl 28 (.tmp 2) rfl w.heap.size 0 rfl (secV k) d28 Hrg.out hd28 hrow28 (by rw [secV_len]; kernel_rfl) ?_)
  refine (RValid_any k w1).mono ?_
  rintro e w2 ⟨rfl, hb2⟩
  replace HX := Lib.hid (HX.out.below hb2 HX.out.lt)
  replace HZ := Lib.hid (HZ.out.below hb2 HZ.out.lt)
  replace HB := Lib.hid (HB.out.trans (hb2.mono hsz1))
  have hsz2 := HB.out.size
  clear hb2 Hrg
  by_cases hv : validS k = true
  rotate_left
  · have hv' : validS k = false := by simpa using hv
    rw [hv']
    have HR1 := Lib.hid (show signS k bs = (sg0, sc0, 161) by unfold signS; rw [if_neg hv])
    clear hv hv' hr
    go_wp2_with (first | (refine wpList_buildN rfl 39 _ rfl [(2, .int .i64 161)] rfl _ (built39e _) ?_) | (refine wpList_store_row rfl 39 (.tmp 4) (.tmp 13) rfl (w.heap.size + 1) (sgnV 0 none 0 0 none 0 0 sc0 161).toArray rfl rfl 39 _ HZ.out (size39 _ (sgn_size _ _ _ _ _ _ _ _ _)) ((sgn_size _ _ _ _ _ _ _ _ _).trans (sgn_size _ _ _ _ _ _ _ _ _).symm) (sgn_one _ _ _ _ _ _ _ _ _) ?_))
    refine bodyPost_ret (results_cell_row rfl _ _ (w.heap.size + 1) 39 (sgnV 0 none 0 0 none 0 0 sc0 161).toArray (0, 0) _ rfl (setRow_heap _ _ _ _ _ _ HZ.out) hd39 (by cases d39 <;> first | rfl | exact hrow39) (size39 _ (sgn_size _ _ _ _ _ _ _ _ _))) rfl ⟨⟨none, 0, 0, none, 0, 0, by rw [HR1.out]; rfl, by omega, by omega, by rw [HR1.out]; exact trd_nilS _, by rw [HR1.out]; exact trd_nilS _⟩, Below.setRow HB.out (by omega) _⟩

  obtain ⟨H, N, e1, h2, e3, h4, h5, e6⟩ := valid_of hv
  rw [hv]
  obtain ⟨M, hM⟩ : ∃ M, M = 2 ^ H := ⟨_, rfl⟩
  have c1 : w2.cell? ⟨w.heap.size, 32, none⟩ = some (.int .i64 (H : Int)) := by rw [HX.out.cell, List.getElem?_toArray, sec_h, e1]
  have c2 : w2.cell? ⟨w.heap.size, 33, none⟩ = some (.int .i64 (N : Int)) := by rw [HX.out.cell, List.getElem?_toArray, sec_n, e3]
  have hsh : IntKind.i64.wrap (2 ^ H) = (M : Int) := by rw [hM]; rcases pow5n h2 with rfl | rfl | rfl | rfl | rfl <;> rfl
  have hM16 : M ≤ 16 := by omega
  have HM := Lib.hid hM
  have HV := Lib.hid hv
  have E1 := Lib.hid e1
  have E3 := Lib.hid e3
  have E6 := Lib.hid e6
  rw [← hM] at h4
  clear hv e1 e3 e6 h5 hM
  go_upto_region 4 with fail
  by_cases hNM : N = M
  · have dd : ((N : Int) == (M : Int)) = true := by rw [beq_iff_eq]; omega
    go_quiet (fail)
    replace HZ := Lib.hid (HZ.out.below (below_drewN (Below.refl w2.heap.size w2) nq) HZ.out.lt)
    replace HB := Lib.hid (below_drewN HB.out nq)
    have HR1 := Lib.hid (show signS k bs = (sg0, sc0, 160) by unfold signS; rw [if_pos HV.out, if_pos (by rw [E3.out, E6.out, hNM, HM.out]; push_cast; rfl)])
    clear dd c1 c2 hsh hr HX
    go_wp2_with (first | (refine wpList_buildN rfl 39 _ rfl [(2, .int .i64 160)] rfl _ (built39e _) ?_) | (refine wpList_store_row rfl 39 (.tmp 4) (.tmp 20) rfl (w.heap.size + 1) (sgnV 0 none 0 0 none 0 0 sc0 160).toArray rfl rfl 39 _ HZ.out (size39 _ (sgn_size _ _ _ _ _ _ _ _ _)) ((sgn_size _ _ _ _ _ _ _ _ _).trans (sgn_size _ _ _ _ _ _ _ _ _).symm) (sgn_one _ _ _ _ _ _ _ _ _) ?_))
    refine bodyPost_ret (results_cell_row rfl _ _ (w.heap.size + 1) 39 (sgnV 0 none 0 0 none 0 0 sc0 160).toArray (0, 0) _ rfl (setRow_heap _ _ _ _ _ _ HZ.out) hd39 (by cases d39 <;> first | rfl | exact hrow39) (size39 _ (sgn_size _ _ _ _ _ _ _ _ _))) rfl ⟨⟨none, 0, 0, none, 0, 0, by rw [HR1.out]; rfl, by omega, by omega, by rw [HR1.out]; exact trd_nilS _, by rw [HR1.out]; exact trd_nilS _⟩, Below.setRow HB.out (by omega) _⟩

  have dd : ((N : Int) == (M : Int)) = false := by rw [beq_eq_false_iff_ne]; omega
  go_quiet (fail)
  obtain ⟨w3, hw3⟩ : ∃ v, v = w2.drewN nq := ⟨_, rfl⟩
  have hb3 : Below w2.heap.size w2 w3 := by rw [hw3]; exact below_drewN (Below.refl _ _) _
  rw [← hw3]
  clear hw3
  replace HX := Lib.hid (HX.out.below hb3 HX.out.lt)
  replace HZ := Lib.hid (HZ.out.below hb3 HZ.out.lt)
  replace HB := Lib.hid (HB.out.trans (hb3.mono hsz2))
  have hsz3 := HB.out.size
  have c1 : w3.cell? ⟨w.heap.size, 32, none⟩ = some (.int .i64 (H : Int)) := by rw [HX.out.cell, List.getElem?_toArray, sec_h, E1.out]
  have c2 : w3.cell? ⟨w.heap.size, 33, none⟩ = some (.int .i64 (N : Int)) := by rw [HX.out.cell, List.getElem?_toArray, sec_n, E3.out]
  have Hn_ := Lib.hid (Blk.new w3 37 (sgV 0 none 0 0 none 0 0).toArray)
  clear hb3 dd hsh
  go_upto_region 7 with (first | (refine wpList_buildN rfl 37 _ rfl [(0, .int .i64 (N : Int))] rfl _ (built37i _) ?_) | (refine wpList_alloc0 rfl 37 rfl (sgV 0 none 0 0 none 0 0).toArray _ i37 hi37 hz37 rfl ?_; simp only [Act.put, List.setIfInBounds_toArray, List.set_cons_succ, List.set_cons_zero]) | (refine wpList_store_row rfl 37 (.tmp 6) (.tmp 23) rfl w3.heap.size (sgV (N : Int) none 0 0 none 0 0).toArray rfl rfl 37 _ Hn_.out (size37 _ rfl) rfl (sg_one _ _ _ _ _ _ _) ?_))
  obtain ⟨G, hG⟩ : ∃ G, G = w3.heap.size := ⟨_, rfl⟩
  obtain ⟨w4, hw4⟩ : ∃ v, v = (w3.alloc (.cells (sgV 0 none 0 0 none 0 0).toArray 37)).setRow w3.heap.size (sgV (N : Int) none 0 0 none 0 0).toArray := ⟨_, rfl⟩
  have hb4 : Below w3.heap.size w3 w4 := by rw [hw4]; exact Below.setRow ((Below.refl _ _).alloc (Nat.le_refl _) _) (Nat.le_refl _) _
  have hG4 : Blk w4 G 37 (sgV (N : Int) none 0 0 none 0 0).toArray := by rw [hw4, hG]; exact setRow_heap _ _ _ _ _ _ Hn_.out
  rw [← hw4, ← hG]
  have hGs : w.heap.size + 1 < G := by rw [hG]; exact HZ.out.lt
  clear hw4 Hn_ c1 c2
  replace HX := Lib.hid (HX.out.below hb4 HX.out.lt)
  replace HZ := Lib.hid (HZ.out.below hb4 HZ.out.lt)
  replace HB := Lib.hid (HB.out.trans (hb4.mono hsz3))
  have hsz4 := HB.out.size
  clear hb4 hG
  go_upto_region 8 with fail
  refine (RDigits_any A len cap bs w4 (hr.below HB.out) hlen).mono ?_
  rintro e w5 ⟨⟨DA, dc, rfl, hdg⟩, hb5⟩
  replace HX := Lib.hid (HX.out.below hb5 HX.out.lt)
  replace HZ := Lib.hid (HZ.out.below hb5 HZ.out.lt)
  have HG := Lib.hid (hG4.below hb5 hG4.lt)
  replace HB := Lib.hid (HB.out.trans (hb5.mono hsz4))
  have hsz5 := HB.out.size
  have Hdl := digS_len bs
  obtain ⟨db, do_, rfl, _⟩ := hdg.2.2 (by omega)
  obtain ⟨b', o', u', e1', e2', e3'⟩ := hdg.at_ (k := 66) (by omega)
  cases e1'
  have hdbl : db < w5.heap.size := World.block_lt_of_cell? w5 _ e3'
  have hdbG : db ≠ G := fun e => by
    rw [e, HG.out.cell] at e3'
    have : (sgV (N : Int) none 0 0 none 0 0).toArray[do_ + 66]? = none := Array.getElem?_eq_none (by rw [sg_size]; omega)
    rw [this] at e3'
    cases e3'
  clear e2' e3'
  have Hdd := Lib.hid hdg
  have hGl : G < w5.heap.size := HG.out.lt
  clear hG4 hb5 hdg hr
  skip
  go_wp2_with fail
  go_loopw [8] (fun v8 wr => ∃ (c : Nat) (v : Value), v8 = .int .i64 (c : Int) ∧ c ≤ 67 ∧ Blk wr G 37 #[.int .i64 (N : Int), v, .slice none 0 0] ∧ AppZ wr w5.heap.size 26 32 v c ((chainK k.s (UInt8.ofNat N) (digS bs) c).flatMap sumC) ∧ KeptIn (fun b => b < w5.heap.size ∧ b ≠ G) w5 wr) (fun v8 _ => 67 - (intOf v8).toNat)
  case atStart => exact ⟨0, .slice none 0 0, rfl, by omega, HG.out, AppZ.nil _, KeptIn.refl _ _⟩
  case round =>
    obtain ⟨c, v, rfl, hc, hGr, happ, hkr⟩ := hrel
    have hszr := hkr.size
    have hXr := HX.out.keptIn hkr (show w.heap.size < w5.heap.size ∧ w.heap.size ≠ G by omega)
    have hDr := Hdd.out.keptIn hkr (fun b off _ e => by cases e; exact ⟨hdbl, hdbG⟩)
    obtain ⟨vA, vc, rfl, hvc, hvr⟩ := happ.rd
    have Happ := Lib.hid happ
    have HGr := Lib.hid hGr
    have HXr := Lib.hid hXr
    have HKr := Lib.hid hkr
    have HDr := Lib.hid hDr
    clear hGr happ hkr hvr hXr hDr
    by_cases hlt : c < 67
    · have d0 : decide ((c : Int) < 67) = true := decide_eq_true (by omega)
      have hk67 : (c : Int) < 67 := by omega
      have hk0 : (0 : Int) ≤ (c : Int) := by omega
      have hN256 : N < 256 := by omega
      obtain ⟨dg, hdg, hdl⟩ := digS_at (body := bs) hlt
      have Hdg := Lib.hid (show ∀ W, Below wr.heap.size wr W → W.cell? ⟨db, do_ + c, none⟩ = some (.int .i64 (dg : Int)) from fun W hW => by
        obtain ⟨b', o', u, e1, e2, e3⟩ := (HDr.out.below hW).at_ (k := c) hlt
        cases e1
        rw [hdg] at e2
        cases e2
        exact e3)
      obtain ⟨X, hX⟩ : ∃ X, X = stS (startS k.s (UInt8.ofNat N) (UInt8.ofNat c)) dg := ⟨_, rfl⟩
      have Hck := Lib.hid (show chainK k.s (UInt8.ofNat N) (digS bs) (c + 1) = chainK k.s (UInt8.ofNat N) (digS bs) c ++ [X] by rw [chainK, hX, List.getD_eq_getElem?_getD, hdg]; rfl)
      have HXX := Lib.hid hX
      clear hdg hX
      go_upto_region 11 with fail
      refine wp_region_flow_tail 13 [30, 31, 32, 33, 34, 35, 36, 37, 38, 39, 40, 41, 42] [(Spec.is (.pointer (some ⟨G, 1, none⟩)), false), (Spec.is (.slice vA c vc), false), (Spec.is (.agg (secV k).toArray), false), (Spec.is (.pointer (some ⟨w.heap.size, 33, none⟩)), false), (Spec.is (.int .i64 (N : Int)), false), (Spec.is (.int .i64 (c : Int)), false), (Spec.is (.agg (sumC (startS k.s (UInt8.ofNat N) (UInt8.ofNat c))).toArray), false), (Spec.is (.slice (some ⟨db, do_, none⟩) 67 dc), false), (Spec.is (.int .i64 (c : Int)), false), (Spec.is (.pointer (some ⟨db, do_ + c, none⟩)), false), (Spec.is (.int .i64 (dg : Int)), false), (Spec.is (.agg (sumC (stS (startS k.s (UInt8.ofNat N) (UInt8.ofNat c)) dg)).toArray), false), (spLit 26 (sumC (stS (startS k.s (UInt8.ofNat N) (UInt8.ofNat c)) dg)), false)] 61 (by kernel_rfl) (List.take_append_drop _ _) rfl (by kernel_rfl) (by kernel_rfl) (by kernel_rfl) (by decide) (by kernel_rfl) (by kernel_rfl) (fun _ _ d _ _ h => by cases d <;> exact h) rfl (by decide) rfl (by decide) (by kernel_rfl) ?_ ?_
      · refine ⟨?_, ?_, ?_, ?_, ?_, ?_, ?_, ?_, ?_, ?_, ?_, ?_, ?_, trivial⟩
        · intro a W hE hb hs
          have h6 : a.eval (.tmp 6) = .pointer (some ⟨G, 0, none⟩) := hb 6 (by decide)
          refine flow0 rfl ?_
          intro K hK
          unfold Oper.wp execOp
          simp only [h6]
          simp [go_sem]
          exact hK _ _ ⟨Below.refl _ _, rfl, trivial⟩
        · intro a W hE hb hs
          have h30 : a.eval (.tmp 30) = .pointer (some ⟨G, 1, none⟩) := hs 0 (by decide)
          refine flow0 rfl ?_
          have g0 : W.cell? ⟨G, 1, none⟩ = some (.slice vA c vc) := by rw [(HGr.out.below (ext_below hE) HGr.out.lt).cell]; rfl
          intro K hK
          unfold Oper.wp execOp
          simp only [h30]
          simp [go_sem, g0]
          exact hK _ _ ⟨Below.refl _ _, rfl, trivial⟩
        · intro a W hE hb hs
          have h2 : a.eval (.tmp 2) = .pointer (some ⟨w.heap.size, 0, none⟩) := hb 2 (by decide)
          refine flow0 rfl ?_
          exact val_load_row 28 _ rfl w.heap.size 0 h2 (secV k) d28 (Blk.range (HXr.out.below (ext_below hE) HXr.out.lt)) hd28 hrow28 (by rw [secV_len]; kernel_rfl) ⟨rfl, trivial⟩
        · intro a W hE hb hs
          have h2 : a.eval (.tmp 2) = .pointer (some ⟨w.heap.size, 0, none⟩) := hb 2 (by decide)
          refine flow0 rfl ?_
          intro K hK
          unfold Oper.wp execOp
          simp only [h2]
          simp [go_sem]
          exact hK _ _ ⟨Below.refl _ _, rfl, trivial⟩
        · intro a W hE hb hs
          have h33 : a.eval (.tmp 33) = .pointer (some ⟨w.heap.size, 33, none⟩) := hs 3 (by decide)
          refine flow0 rfl ?_
          have g0 : W.cell? ⟨w.heap.size, 33, none⟩ = some (.int .i64 (N : Int)) := by rw [(HXr.out.below (ext_below hE) HXr.out.lt).cell, List.getElem?_toArray, sec_n, E3.out]
          intro K hK
          unfold Oper.wp execOp
          simp only [h33]
          simp [go_sem, g0]
          exact hK _ _ ⟨Below.refl _ _, rfl, trivial⟩
        · intro a W hE hb hs
          have h8 : a.eval (.tmp 8) = .int .i64 (c : Int) := hb 8 (by decide)
          refine flow0 rfl ?_
          exact val_move _ rfl _ h8 ⟨rfl, trivial⟩
        · intro a W hE hb hs
          have h32 : a.eval (.tmp 32) = .agg (secV k).toArray := hs 2 (by decide)
          have h34 : a.eval (.tmp 34) = .int .i64 (N : Int) := hs 4 (by decide)
          have h35 : a.eval (.tmp 35) = .int .i64 (c : Int) := hs 5 (by decide)
          refine flow0 rfl ?_
          exact val_call 40 _ _ rfl (by kernel_rfl) [.agg (secV k).toArray, .int .i64 (N : Int), .int .i64 (c : Int)] (by show [a.eval (.tmp 32), a.eval (.tmp 34), a.eval (.tmp 35)] = _; rw [h32, h34, h35]) ((Start_any k N c hN256 (by omega) W).mono (by rintro e W' ⟨rfl, hb⟩; exact ⟨_, rfl, hb, rfl, trivial⟩))
        · intro a W hE hb hs
          have h7 : a.eval (.tmp 7) = .slice (some ⟨db, do_, none⟩) 67 dc := hb 7 (by decide)
          refine flow0 rfl ?_
          exact val_move _ rfl _ h7 ⟨rfl, trivial⟩
        · intro a W hE hb hs
          have h8 : a.eval (.tmp 8) = .int .i64 (c : Int) := hb 8 (by decide)
          refine flow0 rfl ?_
          exact val_move _ rfl _ h8 ⟨rfl, trivial⟩
        · intro a W hE hb hs
          have h37 : a.eval (.tmp 37) = .slice (some ⟨db, do_, none⟩) 67 dc := hs 7 (by decide)
          have h38 : a.eval (.tmp 38) = .int .i64 (c : Int) := hs 8 (by decide)
          refine flow0 rfl ?_
          intro K hK
          unfold Oper.wp execOp
          simp only [h37, h38]
          simp [go_sem, hk67, hk0]
          exact hK _ _ ⟨Below.refl _ _, rfl, trivial⟩
        · intro a W hE hb hs
          have h39 : a.eval (.tmp 39) = .pointer (some ⟨db, do_ + c, none⟩) := hs 9 (by decide)
          refine flow0 rfl ?_
          have g0 := Hdg.out W (ext_below hE)
          intro K hK
          unfold Oper.wp execOp
          simp only [h39]
          simp [go_sem, g0]
          exact hK _ _ ⟨Below.refl _ _, rfl, trivial⟩
        · intro a W hE hb hs
          have h36 : a.eval (.tmp 36) = .agg (sumC (startS k.s (UInt8.ofNat N) (UInt8.ofNat c))).toArray := hs 6 (by decide)
          have h40 : a.eval (.tmp 40) = .int .i64 (dg : Int) := hs 10 (by decide)
          refine flow0 rfl ?_
          exact val_call 39 _ _ rfl (by kernel_rfl) [.agg (sumC (startS k.s (UInt8.ofNat N) (UInt8.ofNat c))).toArray, .int .i64 (dg : Int)] (by show [a.eval (.tmp 36), a.eval (.tmp 40)] = _; rw [h36, h40]) ((RSteps_any (startS k.s (UInt8.ofNat N) (UInt8.ofNat c)) dg (by omega) W).mono (by rintro e W' ⟨rfl, hb⟩; exact ⟨_, rfl, hb, rfl, trivial⟩))
        · intro a W hE hb hs
          have h41 : a.eval (.tmp 41) = .agg (sumC (stS (startS k.s (UInt8.ofNat N) (UInt8.ofNat c)) dg)).toArray := hs 11 (by decide)
          refine flow0 rfl ?_
          exact val_build1 rfl 35 26 (.tmp 41) rfl _ i32 _ 32 Tryd.underlying35 hi32 hz32 hs32 (by omega) (by omega) h41 (sum_size _) ⟨⟨_, rfl, Blk.new _ _ _⟩, trivial⟩
      · intro f W hb hT hp hd
        obtain ⟨B, e42, hB⟩ : ∃ B, f 42 = .slice (some ⟨B, 0, none⟩) 1 1 ∧ Blk W B 26 (sumC (stS (startS k.s (UInt8.ofNat N) (UInt8.ofNat c)) dg)).toArray := hT 12 (by decide)
        rw [← HXX.out] at hB
        have e31 : f 31 = .slice vA c vc := hT 1 (by decide)
        have Hrd := Lib.hid (rd32_one hB)
        replace Happ := Lib.hid (Happ.out.below hb (Nat.le_refl _))
        have HbW := Lib.hid hb
        have hsW : w5.heap.size ≤ W.heap.size := Nat.le_trans hszr hb.size
        simp only [putV, List.foldl_cons, List.foldl_nil, Act.put, List.setIfInBounds_toArray, List.set_cons_succ, List.set_cons_zero]
        rw [e42, e31]
        clear hB hb hT hp hd e42 e31
        simp only [List.drop_succ_cons, List.drop_zero]
        go_wp2_with (at_builtin; refine wpList_appz rfl (.tmp 31) (.tmp 42) 35 rfl 26 i32 (.agg zero32) 32 32 Tryd.underlying35 hi32 hz32 hs32 hy32 rfl (by omega) w5.heap.size hsW (.slice vA c vc) _ _ rfl Happ.out (some ⟨B, 0, none⟩) 1 1 (sumC X) rfl Hrd.out (oneB _) (by unfold maxLen; omega) (by omega) ?_; intro v9 w9 ha9 hg9; have hb9 : Below w5.heap.size W w9 := (Below.refl _ W).grown hg9 hsW (fun g e => (Happ.out.lt g e).1); have hG9 := (HGr.out.below HbW.out HGr.out.lt).below hb9 hGl; have g9 : w9.cell? ⟨G, 1, none⟩ = some (.slice vA c vc) := (by rw [hG9.cell]; rfl); have fr9 := hG9.frozen 1; have Ha9 := Lib.hid ha9; obtain ⟨A9, c9, rfl, hc9, hr9⟩ := ha9.rd; have HG9 := Lib.hid hG9; have Hb9 := Lib.hid hb9; clear hg9 hG9 hb9 hr9)
        have hGn : Blk (w9.setCell ⟨G, 1, none⟩ (.slice A9 (c + 1) c9)) G 37 #[.int .i64 (N : Int), .slice A9 (c + 1) c9, .slice none 0 0] := heap_setCell_same w9 G 1 _ 37 _ HG9.out
        have hkn : KeptIn (fun b => b < w5.heap.size ∧ b ≠ G) w5 (w9.setCell ⟨G, 1, none⟩ (.slice A9 (c + 1) c9)) := ((HKr.out.trans (KeptIn.of_below HbW.out (fun b hb => by have := hb.1; omega))).trans (KeptIn.of_below Hb9.out (fun b hb => hb.1))).setAt (fun h => h.2 rfl) _
        have han := Ha9.out.setAt (i := 1) (u := .slice A9 (c + 1) c9) HG9.out (by decide)
        refine ⟨⟨c + 1, .slice A9 (c + 1) c9, by push_cast; rfl, by omega, hGn, ?_, hkn⟩, by simp only [intOf]; omega⟩
        rw [Hck.out, List.flatMap_append]
        simpa using han
    · have he : c = 67 := by omega
      subst he
      have hNMl : N < M := by omega
      have HKeys := Lib.hid (show ∀ W, _ from fun W => Keys_any k H E1.out h2 W)
      rw [← HM.out] at HKeys
      have Hkl := Lib.hid (show ∀ x ∈ keysS k.s M, x.length ≤ 8796093021000 from fun x hx => by
        unfold keysS at hx
        obtain ⟨j, _, rfl⟩ := List.mem_map.1 hx
        show (chunkK _ _ 67).length ≤ _
        rw [chunkK_len]; omega)
      obtain ⟨C, hC⟩ : ∃ C : World → Prop, C = fun W' => KeptIn (fun b => b < wr.heap.size ∧ b ≠ G) wr W' := ⟨_, rfl⟩
      have HCk := Lib.hid (show ∀ W', KeptIn (fun b => b < wr.heap.size ∧ b ≠ G) wr W' → C W' from fun W' h => by rw [hC]; exact h)
      have hXl : w.heap.size < wr.heap.size := HXr.out.lt
      have HCx := Lib.hid (show ∀ W', C W' → Blk W' w.heap.size 28 (secV k).toArray from fun W' h => by rw [hC] at h; exact HXr.out.keptIn h ⟨hXl, by omega⟩)
      have HCr := Lib.hid (show ∀ W', C W' → W'.rangeAt w.heap.size 0 (secV k) from fun W' h => Blk.range (HCx.out W' h))
      have HCn := Lib.hid (show ∀ W', C W' → W'.cell? ⟨w.heap.size, 33, none⟩ = some (.int .i64 (N : Int)) from fun W' h => by rw [(HCx.out W' h).cell, List.getElem?_toArray, sec_n, E3.out])
      clear hC
      go_upto_region 12 with fail
      go_cut [] from 45 to 53 (fun wx => ∃ (D : Option Addr) (m d : Nat), m ≤ d ∧ Blk wx G 37 #[.int .i64 (N : Int), .slice vA 67 vc, .slice D m d] ∧ AppZ wx w5.heap.size 26 32 (.slice vA 67 vc) 67 ((chainK k.s (UInt8.ofNat N) (digS bs) 67).flatMap sumC) ∧ TRd wx 26 32 D m ((proofL ((keysS k.s M).map leafS) N).flatMap sumC) ∧ KeptIn (fun b => b < w5.heap.size ∧ b ≠ G) w5 wx)
      case first =>
        have Hkd := Lib.hid (show KeptIn (fun b => b < wr.heap.size ∧ b ≠ G) wr wr.drew from KeptIn.of_below (Below.refl _ wr).drew (fun b hb => hb.1))
        refine wp_region_class C [0, 2, 3] 7 (by kernel_rfl) (by kernel_rfl) (fun _ _ d _ _ h => by cases d <;> exact h) (HCk.out _ Hkd.out) (by kernel_rfl) (by kernel_rfl) rfl ?_
        simp only [pickOps, List.getElem?_cons_zero, List.getElem?_cons_succ]
        refine wpQuiet_load_mid rfl 28 (.tmp 2) rfl w.heap.size 0 rfl (secV k) d28 HCr.out hd28 hrow28 (by rw [secV_len]; kernel_rfl) ?_
        simp only [Act.put, List.setIfInBounds_toArray, List.set_cons_succ, List.set_cons_zero]
        refine wpQuiet_run rfl (.pointer (some ⟨w.heap.size, 33, none⟩)) (fun w => by simp [execOp, go_sem]) ?_
        simp only [Act.put, List.setIfInBounds_toArray, List.set_cons_succ, List.set_cons_zero]
        refine wpQuiet_load1 rfl 3 (.tmp 48) rfl w.heap.size 33 rfl _ _ Tryd.underlying3 rfl HCn.out ?_
        simp only [Act.put, List.setIfInBounds_toArray, List.set_cons_succ, List.set_cons_zero]
        refine wpQuiet_nil ?_
        refine wpAnyH_one (i := 1) (by kernel_rfl) rfl (fun K hK => ?_)
        rw [if_pos (by rfl)]
        refine val_call (R := fun v W' => ∃ (A : Option Addr) (cA : Nat), v = .slice A M cA ∧ Lst W' A M (keysS k.s M)) 26 _ _ rfl (by kernel_rfl) [.agg (secV k).toArray] rfl ((HKeys.out wr.drew).mono (by rintro e W' ⟨⟨v, vs, rfl, ha, hins⟩, hb⟩; obtain ⟨A, cA, rfl, hcA, hr⟩ := ha.rd; exact ⟨_, rfl, hb, A, cA, rfl, ⟨vs, hr, keysS_len _ _, fun j v c hv hc => ⟨(hins.2 j v c hv hc).1.rd, (hins.2 j v c hv hc).2⟩⟩⟩)) K ?_
        rintro v W3 ⟨hb3, A3, cA3, rfl, hls3⟩
        have hb3' : Below wr.heap.size wr W3 := (Below.refl _ wr).drew.trans hb3
        have Hk3 := Lib.hid (show KeptIn (fun b => b < wr.heap.size ∧ b ≠ G) wr W3 from KeptIn.of_below hb3' (fun b hb => hb.1))
        refine hK _ _ (HCk.out _ Hk3.out) ?_
        clear hK K
        simp only [Act.put, List.setIfInBounds_toArray, List.set_cons_succ, List.set_cons_zero]
        refine wpAnyH_one (i := 4) (by kernel_rfl) rfl (fun K hK => ?_)
        rw [if_pos (by rfl)]
        refine val_call (R := fun v W' => ∃ (D : Option Addr) (m d : Nat), v = .tuple #[.slice D m d, .int .i64 0] ∧ m ≤ d ∧ TRd W' 26 32 D m ((proofL ((keysS k.s M).map leafS) N).flatMap sumC)) 41 _ _ rfl (by kernel_rfl) [.slice A3 M cA3, .int .i64 (N : Int)] rfl ((RProof_typed A3 M cA3 N (keysS k.s M) W3 hls3 (by omega) Hkl.out hNMl).mono (by rintro e W' ⟨D, m, d, rfl, hmd, htr, hb, _⟩; exact ⟨_, rfl, hb, D, m, d, rfl, hmd, htr⟩)) K ?_
        rintro v W4 ⟨hb4, D, m, d, rfl, hmd, htr⟩
        have hb4' : Below wr.heap.size wr W4 := hb3'.trans (hb4.mono hb3'.size)
        have Hk4 := Lib.hid (show KeptIn (fun b => b < wr.heap.size ∧ b ≠ G) wr W4 from KeptIn.of_below hb4' (fun b hb => hb.1))
        refine hK _ _ (HCk.out _ Hk4.out) ?_
        clear hK K
        simp only [Act.put, List.setIfInBounds_toArray, List.set_cons_succ, List.set_cons_zero]
        refine wpAnyH_one (i := 5) (by kernel_rfl) rfl (fun K hK => ?_)
        rw [if_pos (by rfl)]
        unfold Oper.wp execOp
        simp [go_sem]
        refine hK _ _ (HCk.out _ Hk4.out) ?_
        clear hK K
        have hG4 := HGr.out.below hb4' HGr.out.lt
        have g4 : W4.cell? ⟨G, 2, none⟩ = some (.slice none 0 0) := by rw [hG4.cell]; rfl
        have fr4 := hG4.frozen 2
        have Hk5 := Lib.hid (show KeptIn (fun b => b < wr.heap.size ∧ b ≠ G) wr (W4.setCell ⟨G, 2, none⟩ (.slice D m d)) from Hk4.out.setAt (fun h => h.2 rfl) _)
        have HG5 := Lib.hid (show Blk (W4.setCell ⟨G, 2, none⟩ (.slice D m d)) G 37 #[.int .i64 (N : Int), .slice vA 67 vc, .slice D m d] from heap_setCell_same W4 G 2 _ 37 _ hG4)
        have Happ5 := Lib.hid ((Happ.out.below hb4' (Nat.le_refl _)).setAt (i := 2) (u := .slice D m d) hG4 (by decide))
        have Htr5 := Lib.hid (htr.kept hG4 (by decide) ((KeptIn.refl (fun k => k ≠ G) W4).setAt (p := ⟨G, 2, none⟩) (fun h => h rfl) (.slice D m d)))
        obtain ⟨W5, hW5⟩ : ∃ v, v = W4.setCell ⟨G, 2, none⟩ (.slice D m d) := ⟨_, rfl⟩
        have HW5 := Lib.hid hW5
        rw [← hW5] at Hk5 HG5 Happ5 Htr5
        have Hk05 := Lib.hid (HKr.out.trans (Hk5.out.weaken (fun b hb => ⟨by have := hb.1; omega, hb.2⟩)))
        clear hb3 hb3' hb4 hb4' hls3 htr hG4 HCx HCr HCn hW5
        rw [HW5.out] at Hk5
        refine wpAnyH_two (i := 6) (j := 7) (by kernel_rfl) rfl rfl (fun K hK => ?_) (fun K hK => ?_)
        · rw [if_pos (by rfl)]
          unfold Oper.wp execOp
          simp [go_sem]
          refine hK _ _ (HCk.out _ Hk4.out) ?_
          clear hK K
          try simp only [Act.put, List.setIfInBounds_toArray, List.set_cons_succ, List.set_cons_zero]
          refine wpAnyH_two (i := 7) (j := 8) (by kernel_rfl) rfl rfl (fun K hK => ?_) (fun K hK => ?_)
          · rw [if_pos (by rfl)]
            unfold Oper.wp execOp
            simp [go_sem]
            refine hK _ _ (HCk.out _ Hk4.out) ?_
            clear hK K
            try simp only [Act.put, List.setIfInBounds_toArray, List.set_cons_succ, List.set_cons_zero]
            refine wpAnyH_one (i := 8) (by kernel_rfl) rfl (fun K hK => ?_)
            rw [if_pos (by rfl)]
            unfold Oper.wp execOp
            simp [go_sem]
            refine hK _ _ (HCk.out _ Hk4.out) ?_
            clear hK K
            try simp only [Act.put, List.setIfInBounds_toArray, List.set_cons_succ, List.set_cons_zero]
            refine wpAnyH_one (i := 9) (by kernel_rfl) rfl (fun K hK => ?_)
            rw [if_pos (by rfl)]
            unfold Oper.wp execOp
            simp [go_sem, g4, fr4]
            refine hK _ _ (HCk.out _ Hk5.out) ?_
            clear hK K
            refine wpAnyH_done (by kernel_rfl) ?_ _
            rw [← HW5.out]
            go_wp2_with fail
            go_meet
            exact ⟨D, m, d, hmd, HG5.out, Happ5.out, Htr5.out, Hk05.out⟩
          · rw [if_pos (by rfl)]
            unfold Oper.wp execOp
            simp [go_sem]
            refine hK _ _ (HCk.out _ Hk4.out) ?_
            clear hK K
            try simp only [Act.put, List.setIfInBounds_toArray, List.set_cons_succ, List.set_cons_zero]
            refine wpAnyH_two (i := 7) (j := 9) (by kernel_rfl) rfl rfl (fun K hK => ?_) (fun K hK => ?_)
            · rw [if_pos (by rfl)]
              unfold Oper.wp execOp
              simp [go_sem]
              refine hK _ _ (HCk.out _ Hk4.out) ?_
              clear hK K
              try simp only [Act.put, List.setIfInBounds_toArray, List.set_cons_succ, List.set_cons_zero]
              refine wpAnyH_one (i := 9) (by kernel_rfl) rfl (fun K hK => ?_)
              rw [if_pos (by rfl)]
              unfold Oper.wp execOp
              simp [go_sem, g4, fr4]
              refine hK _ _ (HCk.out _ Hk5.out) ?_
              clear hK K
              refine wpAnyH_done (by kernel_rfl) ?_ _
              rw [← HW5.out]
              go_wp2_with fail
              go_meet
              exact ⟨D, m, d, hmd, HG5.out, Happ5.out, Htr5.out, Hk05.out⟩
            · rw [if_pos (by rfl)]
              unfold Oper.wp execOp
              simp [go_sem, g4, fr4]
              refine hK _ _ (HCk.out _ Hk5.out) ?_
              clear hK K
              refine wpAnyH_one (i := 7) (by kernel_rfl) rfl (fun K hK => ?_)
              rw [if_pos (by rfl)]
              unfold Oper.wp execOp
              simp [go_sem]
              refine hK _ _ (HCk.out _ Hk5.out) ?_
              clear hK K
              try simp only [Act.put, List.setIfInBounds_toArray, List.set_cons_succ, List.set_cons_zero]
              refine wpAnyH_done (by kernel_rfl) ?_ _
              rw [← HW5.out]
              go_wp2_with fail
              go_meet
              exact ⟨D, m, d, hmd, HG5.out, Happ5.out, Htr5.out, Hk05.out⟩
        · rw [if_pos (by rfl)]
          unfold Oper.wp execOp
          simp [go_sem]
          refine hK _ _ (HCk.out _ Hk4.out) ?_
          clear hK K
          try simp only [Act.put, List.setIfInBounds_toArray, List.set_cons_succ, List.set_cons_zero]
          refine wpAnyH_one (i := 6) (by kernel_rfl) rfl (fun K hK => ?_)
          rw [if_pos (by rfl)]
          unfold Oper.wp execOp
          simp [go_sem]
          refine hK _ _ (HCk.out _ Hk4.out) ?_
          clear hK K
          try simp only [Act.put, List.setIfInBounds_toArray, List.set_cons_succ, List.set_cons_zero]
          refine wpAnyH_one (i := 8) (by kernel_rfl) rfl (fun K hK => ?_)
          rw [if_pos (by rfl)]
          unfold Oper.wp execOp
          simp [go_sem]
          refine hK _ _ (HCk.out _ Hk4.out) ?_
          clear hK K
          try simp only [Act.put, List.setIfInBounds_toArray, List.set_cons_succ, List.set_cons_zero]
          refine wpAnyH_one (i := 9) (by kernel_rfl) rfl (fun K hK => ?_)
          rw [if_pos (by rfl)]
          unfold Oper.wp execOp
          simp [go_sem, g4, fr4]
          refine hK _ _ (HCk.out _ Hk5.out) ?_
          clear hK K
          refine wpAnyH_done (by kernel_rfl) ?_ _
          rw [← HW5.out]
          go_wp2_with fail
          go_meet
          exact ⟨D, m, d, hmd, HG5.out, Happ5.out, Htr5.out, Hk05.out⟩
      case rest =>
        obtain ⟨D, m, d, hmd, hG5, happ5, htr5, hk5⟩ := hcut
        have HG5 := Lib.hid hG5
        have Happ5 := Lib.hid happ5
        have Htr5 := Lib.hid htr5
        have Hk05 := Lib.hid hk5
        have HX5 := Lib.hid (HX.out.keptIn hk5 (show w.heap.size < w5.heap.size ∧ w.heap.size ≠ G by omega))
        have HZ5 := Lib.hid (HZ.out.keptIn hk5 (show w.heap.size + 1 < w5.heap.size ∧ w.heap.size + 1 ≠ G by omega))
        clear hG5 happ5 htr5 hk5 HCx HCr HCn
        obtain ⟨k2, hk2⟩ : ∃ k2 : Sc, k2 = ⟨k.s, k.h, (N : Int) + 1⟩ := ⟨_, rfl⟩
        obtain ⟨W6, hW6⟩ : ∃ v, v = wc.setCell ⟨w.heap.size, 33, none⟩ (.int .i64 ((N : Int) + 1)) := ⟨_, rfl⟩
        have hkx := (KeptIn.refl (fun b => b ≠ w.heap.size) wc).setAt (p := ⟨w.heap.size, 33, none⟩) (fun h => h rfl) (.int .i64 ((N : Int) + 1))
        have hX6 : Blk W6 w.heap.size 28 (secV k2).toArray := by
          have := heap_setCell_same wc w.heap.size 33 _ 28 (.int .i64 ((N : Int) + 1)) HX5.out
          rw [sec_set] at this
          rw [hW6, hk2]; exact this
        have hG6 : Blk W6 G 37 #[.int .i64 (N : Int), .slice vA 67 vc, .slice D m d] := by rw [hW6]; exact HG5.out.keptIn hkx (show G ≠ w.heap.size by omega)
        have hZ6 : Blk W6 (w.heap.size + 1) 39 (sgnV 0 none 0 0 none 0 0 sc0 0).toArray := by rw [hW6]; exact HZ5.out.keptIn hkx (show w.heap.size + 1 ≠ w.heap.size by omega)
        have Happ6 := Lib.hid (show AppZ W6 w5.heap.size 26 32 (.slice vA 67 vc) 67 _ by rw [hW6]; exact Happ5.out.setAt HX5.out (by decide))
        have Htr6 := Lib.hid (show TRd W6 26 32 D m _ by rw [hW6]; exact Htr5.out.kept HX5.out (by decide) hkx)
        have HB6 := Lib.hid (show Below w.heap.size w W6 by rw [hW6]; exact Below.setCell (HB.out.trans (Hk05.out.below (fun b hb => ⟨by omega, by omega⟩))) (Nat.le_refl _) _)
        have c5 : wc.cell? ⟨w.heap.size, 33, none⟩ = some (.int .i64 (N : Int)) := by rw [HX5.out.cell, List.getElem?_toArray, sec_n, E3.out]
        have fr5 := HX5.out.frozen 33
        have HX6 := Lib.hid hX6
        have HG6 := Lib.hid hG6
        have HZ6 := Lib.hid hZ6
        have HW6 := Lib.hid hW6
        have Hr6 := Lib.hid (Blk.range (cs := sgV (N : Int) vA 67 vc D m d) hG6)
        have Hx6 := Lib.hid (Blk.range hX6)
        have HSign := Lib.hid (sign_of bs HV.out E3.out E6.out (HM.out ▸ hNMl))
        rw [← HM.out] at HSign
        rw [← hk2] at HSign
        clear hkx hX6 hG6 hZ6 hW6 hk2
        go_upto_region 14 with fail
        rw [← HW6.out]
        go_wp2_with (first | (refine wpList_load_mid rfl 37 (.tmp 6) rfl G 0 rfl (sgV (N : Int) vA 67 vc D m d) d37 Hr6.out hd37 hrow37 (by rw [sgV_len]; kernel_rfl) ?_) | (refine wpList_load_mid rfl 28 (.tmp 2) rfl w.heap.size 0 rfl (secV k2) d28 Hx6.out hd28 hrow28 (by rw [secV_len]; kernel_rfl) ?_) | (refine wpList_buildN rfl 39 _ rfl [(0, .agg (sgV (N : Int) vA 67 vc D m d).toArray), (1, .agg (secV k2).toArray)] rfl _ (built39s _ _ _ _ _ _ _ _) ?_) | (refine wpList_store_row rfl 39 (.tmp 4) (.tmp 60) rfl (w.heap.size + 1) (sgnV (N : Int) vA 67 vc D m d k2 0).toArray rfl rfl 39 _ HZ6.out (size39 _ (sgn_size _ _ _ _ _ _ _ _ _)) ((sgn_size _ _ _ _ _ _ _ _ _).trans (sgn_size _ _ _ _ _ _ _ _ _).symm) (sgn_one _ _ _ _ _ _ _ _ _) ?_))
        refine bodyPost_ret (results_cell_row rfl _ _ (w.heap.size + 1) 39 (sgnV (N : Int) vA 67 vc D m d k2 0).toArray (0, 0) _ rfl (setRow_heap _ _ _ _ _ _ HZ6.out) hd39 (by cases d39 <;> first | rfl | exact hrow39) (size39 _ (sgn_size _ _ _ _ _ _ _ _ _))) rfl ⟨⟨vA, 67, vc, D, m, d, by rw [HSign.out], hvc, hmd, by rw [HSign.out]; exact (Happ6.out.setRow HZ6.out (by decide)).trd, by rw [HSign.out]; exact (Htr6.out.kept HZ6.out (by decide) ((KeptIn.refl (fun b => b ≠ w.heap.size + 1) W6).setRow (g := w.heap.size + 1) (fun h => h rfl) _))⟩, Below.setRow HB6.out (by omega) _⟩
end Go.Proofs.YtfdhiilhjfbehaaDoor
