/- Package graph: lists of ways, the least one, the place of one. -/
import Derived.Test.YtgelchbbknckcaaG5
namespace Go.Proofs.Ytgelchbbknckcaa
open Go.RowKit Go.Sort

/-- A way in memory: the slice of its links, and what it is. -/
structure Wm where
  (A : Option Addr) (n c : Nat) (w : Gr.Wy) (f kn : Bool)
def castL (l : List Nat) : List Int := l.map fun (i : Nat) => (i : Int)
def wmV (x : Wm) : List Value := wyC x.A x.n x.c (x.w.1 : Int) x.f x.kn
theorem wmV_len (x : Wm) : (wmV x).length = 4 := rfl
def Wok (W : World) (x : Wm) : Prop := Rd W 1 x.A x.n ((castL x.w.2).map intV)
theorem Wok.below {W W' : World} {x : Wm} (h : Wok W x) (hb : Below W.heap.size W W') : Wok W' x := Rd.below h hb
theorem cmpI_cast (a b : Nat) : cmpI (a : Int) (b : Int) = Gr.cmpN a b := by
  unfold cmpI Gr.cmpN
  by_cases h : a < b
  · rw [if_pos (by omega), if_pos h]
  · rw [if_neg (by omega), if_neg h]
    by_cases h2 : b < a
    · rw [if_pos (by omega), if_pos h2]
    · rw [if_neg (by omega), if_neg h2]
theorem cmpLI_cast : ∀ a b : List Nat, cmpLI (castL a) (castL b) = Gr.cmpL a b
  | [], [] => rfl
  | [], _ :: _ => rfl
  | _ :: _, [] => rfl
  | x :: a, y :: b => by
    show cmpLI ((x : Int) :: castL a) ((y : Int) :: castL b) = _
    rw [cmpLI, cmpI_cast, cmpLI_cast a b, Gr.cmpL]
    unfold Gr.cmpN
    by_cases h : x < y
    · rw [if_pos h, if_pos h]; rfl
    · rw [if_neg h, if_neg h]
      by_cases h2 : y < x
      · rw [if_pos h2, if_pos h2]; rfl
      · rw [if_neg h2, if_neg h2]; simp
theorem cmp3_cast (a b : Gr.Wy) : cmp3 (a.1 : Int) (b.1 : Int) (castL a.2) (castL b.2) = Gr.cmpW a b := by
  unfold cmp3 Gr.cmpW
  rw [cmpI_cast, cmpLI_cast, show (((castL a.2).length : Nat) : Int) = ((a.2.length : Nat) : Int) by simp [castL], show (((castL b.2).length : Nat) : Int) = ((b.2.length : Nat) : Int) by simp [castL], cmpI_cast]
  have e : ∀ p q r : Int, orL [p, q, r] = if p ≠ 0 then p else if q ≠ 0 then q else r := fun p q r => by
    by_cases h1 : p = 0 <;> by_cases h2 : q = 0 <;> by_cases h3 : r = 0 <;> simp [orL, h1, h2, h3]
  exact e _ _ _
theorem info70 : (Try.prog.info? 70).map (fun i => (i.zero, i.size, i.bytes)) = some (some (.agg (wyC none 0 0 0 false false).toArray), 4, 40) := by kernel_rfl
theorem size70 (cs : Array Value) (h : cs.size = 4) : (Try.prog.info? 70).map (·.size) = some cs.size := by rw [h]; kernel_rfl
theorem und70 : ∃ d, Try.prog.underlying 70 = some d ∧ d.isRow = true := by
  obtain ⟨d, h1, h2⟩ := Option.map_eq_some_iff.1 (show (Try.prog.underlying 70).map (·.isRow) = some true by kernel_rfl)
  exact ⟨d, h1, h2⟩
theorem wy_one (A : Option Addr) (n c : Nat) (k : Int) (f kn : Bool) : (wyC A n c k f kn).toArray.all (·.oneCell') = true := all_oneCell_toArray fun v hv => by
  simp only [wyC, List.mem_cons, List.not_mem_nil, or_false] at hv
  rcases hv with rfl | rfl | rfl | rfl <;> rfl
/-- The comparison of two ways that are found. -/
theorem compareW (x y : Wm) (w : World) (hx : Wok w x) (hy : Wok w y) (hxf : x.f = true) (hyf : y.f = true) :
    Calls Try.prog 37 #[.agg (wmV x).toArray, .agg (wmV y).toArray] w fun e w' => e = .returned (.int .i64 (Gr.cmpW x.w y.w)) ∧ Below w.heap.size w w' := by
  have := compare_any x.A y.A x.n y.n x.c y.c (castL x.w.2) (castL y.w.2) (x.w.1 : Int) (y.w.1 : Int) x.f y.f x.kn y.kn w hx hy
  rw [show cmpF x.f y.f (x.w.1 : Int) (y.w.1 : Int) (castL x.w.2) (castL y.w.2) = Gr.cmpW x.w y.w from by unfold cmpF; rw [if_pos (by rw [hxf, hyf]), cmp3_cast]] at this
  exact this
set_option maxRecDepth 100000 in
set_option maxHeartbeats 2000000 in
theorem MinFunc_any (A : Option Addr) (n c : Nat) (ws : List Wm) (w : World) (hr : Rd w 4 A n (ws.flatMap wmV)) (h0 : 0 < n) (hn : n ≤ 1000000) (hok : ∀ x ∈ ws, Wok w x ∧ x.f = true) :
    Calls Try.prog 36 #[.slice A n c, .func (.func 37) #[] #[]] w fun e w' => (∃ x ∈ ws, e = .returned (.agg (wmV x).toArray) ∧ ∀ y ∈ ws, Gr.Le x.w y.w) ∧ Below w.heap.size w w' := by
  obtain ⟨i70, hi70, hz70, hs70, hy70⟩ := info_parts info70
  obtain ⟨d70, hd70, hrow70⟩ := und70
  have hlen := hr.lenf wmV_len (by omega)
  have Hr := Lib.hid hr
  have Hok := Lib.hid hok
  have Hlen := Lib.hid hlen
  have hz : ((n : Int) < 1) = False := by simp; omega
  clear hr hok hlen
  go_enter Try.func36, Try.ntmps36
  go_upto_region 1 with (refine wpList_alloc0 rfl 70 rfl (wyC none 0 0 0 false false).toArray _ i70 hi70 hz70 rfl ?_; simp only [Act.put, List.setIfInBounds_toArray, List.set_cons_succ, List.set_cons_zero])
  obtain ⟨w1, hw1⟩ : ∃ v, v = w.alloc (.cells (wyC none 0 0 0 false false).toArray 70) := ⟨_, rfl⟩
  have hB1 : Below w.heap.size w w1 := by rw [hw1]; exact (Below.refl _ _).alloc (Nat.le_refl _) _
  have hO1 : Blk w1 w.heap.size 70 (wyC none 0 0 0 false false).toArray := by rw [hw1]; exact Blk.new _ _ _
  rw [← hw1]
  clear hw1
  obtain ⟨b, off, x0, rfl, hx0, hc0⟩ := (Hr.out.below hB1).flat_ wmV_len (by omega) h0
  have hok1 : ∀ x ∈ ws, Wok w1 x ∧ x.f = true := fun x hx => ⟨(Hok.out x hx).1.below hB1, (Hok.out x hx).2⟩
  have hrg : ∀ k, k < n → ∃ x, ws[k]? = some x ∧ w1.rangeAt b (off + k * 4) (wmV x) := fun k hk => by
    obtain ⟨b', off', x, e, hx, hc⟩ := (Hr.out.below hB1).flat_ wmV_len (by omega) hk
    cases e
    refine ⟨x, hx, fun j v hv => ?_⟩
    have := hc j v hv
    rwa [← Nat.add_assoc] at this
  obtain ⟨x1, hx1, hg1⟩ := hrg 0 h0
  rw [hx0] at hx1
  cases hx1
  rw [Nat.zero_mul, Nat.add_zero] at hg1
  have Hg1 := Lib.hid hg1
  have Hrg := Lib.hid hrg
  have Hok1 := Lib.hid hok1
  have HB1 := Lib.hid hB1
  have HO1 := Lib.hid hO1
  have Hx0 := Lib.hid hx0
  clear hB1 hO1 hok1 hrg hg1 hc0 hx0 Hok
  have hn_ : Blk (w1.alloc (.cells (wyC none 0 0 0 false false).toArray 70)) w1.heap.size 70 (wyC none 0 0 0 false false).toArray := Blk.new _ _ _
  have Hn_ := Lib.hid hn_
  clear hn_
  have hd1 : decide ((n : Int) < 1) = false := decide_eq_false (by omega)
  have hd2 : decide (n < 1) = false := decide_eq_false (by omega)
  go_upto_region 4 with (first | (refine wpList_load_mid rfl 70 (.tmp 12) rfl b off rfl (wmV x0) d70 Hg1.out hd70 hrow70 (by rw [wmV_len]; kernel_rfl) ?_) | (refine wpList_alloc0 rfl 70 rfl (wyC none 0 0 0 false false).toArray _ i70 hi70 hz70 rfl ?_; simp only [Act.put, List.setIfInBounds_toArray, List.set_cons_succ, List.set_cons_zero]) | (refine wpList_store_row rfl 70 (.tmp 5) (.tmp 13) rfl w1.heap.size (wmV x0).toArray rfl rfl 70 (wyC none 0 0 0 false false).toArray Hn_.out (size70 _ rfl) rfl (wy_one _ _ _ _ _ _) ?_))
  obtain ⟨w2, hw2⟩ : ∃ v, v = (w1.alloc (.cells (wyC none 0 0 0 false false).toArray 70)).setRow w1.heap.size (wmV x0).toArray := ⟨_, rfl⟩
  have hb2 : Below w1.heap.size w1 w2 := by rw [hw2]; exact Below.setRow ((Below.refl _ _).alloc (Nat.le_refl _) _) (Nat.le_refl _) _
  have hM2 : Blk w2 w1.heap.size 70 (wmV x0).toArray := by rw [hw2]; exact setRow_heap _ _ _ _ _ _ Hn_.out
  rw [← hw2]
  clear hw2 Hn_
  obtain ⟨mb, hmb⟩ : ∃ v, v = w1.heap.size := ⟨_, rfl⟩
  rw [← hmb] at hM2 ⊢
  have HM2 := Lib.hid hM2
  have Hb2 := Lib.hid hb2
  have Hmb := Lib.hid hmb
  clear hM2 hb2 hmb hd1 hd2 hz
  go_wp2_with fail
  go_loopw [6] (fun v6 wr => ∃ (k : Nat) (x : Wm), v6 = .int .i64 (k : Int) ∧ 1 ≤ k ∧ k ≤ n ∧ x ∈ ws ∧ (∀ (j : Nat) (y : Wm), j < k → ws[j]? = some y → Gr.Le x.w y.w) ∧ Blk wr mb 70 (wmV x).toArray ∧ Below w1.heap.size w1 wr) (fun v6 _ => n - (intOf v6).toNat)
  case atStart => exact ⟨1, x0, rfl, Nat.le_refl _, by omega, List.mem_of_getElem? Hx0.out, fun j y hj hy => by
    obtain rfl : j = 0 := by omega
    rw [Hx0.out] at hy; cases hy; exact Gr.Le.refl _, HM2.out, Hb2.out⟩
  case round =>
    obtain ⟨k, x, rfl, hk1, hk, hxm, hmin, hM, hB⟩ := hrel
    have Hxm := Lib.hid hxm
    have Hmin := Lib.hid hmin
    have HM := Lib.hid hM
    have HB := Lib.hid hB
    have hsz := hB.size
    clear hxm hmin hM hB
    by_cases hlt : k < n
    · obtain ⟨y, hy, hgy⟩ := Hrg.out k hlt
      have hrx : ∀ w', Ext wr w' → w'.rangeAt mb 0 (wmV x) := fun w' hw' => Blk.range (HM.out.below (ext_below hw') HM.out.lt)
      have hry0 : ∀ w', Below w1.heap.size w1 w' → w'.rangeAt b (off + k * 4) (wmV y) := fun w' hb j v hv => by
        have := hgy j v hv
        exact (hb.cell (World.block_lt_of_cell? w1 _ this)).trans this
      have hry : ∀ w', Ext wr w' → w'.rangeAt b (off + k * 4) (wmV y) := fun w' hw' => hry0 w' (HB.out.trans ((ext_below hw').mono hsz))
      have Hry0 := Lib.hid hry0
      have Hrx := Lib.hid hrx
      have Hry := Lib.hid hry
      have Hy := Lib.hid hy
      obtain ⟨hyo, hyf⟩ := Hok1.out y (List.mem_of_getElem? hy)
      obtain ⟨hxo, hxf⟩ := Hok1.out x Hxm.out
      have Hc := Lib.hid (fun W (hb : Below w1.heap.size w1 W) => compareW y x W (hyo.below hb) (hxo.below hb) hyf hxf)
      obtain ⟨Q, hQ⟩ : ∃ Q, Q = Gr.cmpW y.w x.w := ⟨_, rfl⟩
      rw [← hQ] at Hc
      have HQ := Lib.hid hQ
      clear hrx hry hry0 hy hyo hyf hxo hxf hQ hgy
      go_upto_region 7 with fail
      go_cut [27] from 20 to 27 (fun t27 wx => t27 = .bool (decide (Q < 0)) ∧ Below wr.heap.size wr wx)
      case first =>
        refine wp_region_web [0, 1, 2, 3, 4, 5] 2 (by kernel_rfl) (by kernel_rfl) (fun _ _ d _ _ h => by cases d <;> exact h) (by kernel_rfl) (by kernel_rfl) rfl ?_
        simp only [pickOps, List.getElem?_cons_zero, List.getElem?_cons_succ]
        repeat (first | go_big_quiet_step (fail) | (refine wpQuiet_load_mid rfl 70 (.tmp 23) rfl b (off + k * 4) rfl (wmV y) _ Hry.out hd70 hrow70 (by rw [wmV_len]; kernel_rfl) ?_; simp only [Act.put, List.setIfInBounds_toArray, List.set_cons_succ, List.set_cons_zero]) | (refine wpQuiet_load_mid rfl 70 (.tmp 5) rfl mb 0 rfl (wmV x) _ Hrx.out hd70 hrow70 (by rw [wmV_len]; kernel_rfl) ?_; simp only [Act.put, List.setIfInBounds_toArray, List.set_cons_succ, List.set_cons_zero]))
        refine wpQuiet_nil ?_
        refine web_start0 (fs := []) [.act 6 [], .plain [7]] _ _ (by kernel_rfl) (fun _ _ d _ _ h => by cases d <;> exact h) trivial (by decide) (by decide) (by kernel_rfl) (by kernel_rfl) (ext_drew (ext_refl _)) (by intro F hF; simp at hF) 2 (by decide) (by kernel_rfl) ?_
        intro v1 W hW _ o ho K hK
        cases ho
        have hbW : Below wr.heap.size wr W := ((Below.refl _ wr).drew).trans hW
        simp only [putS, List.foldl_nil, Act.put]
        have Hc2 := Lib.hid (Hc.out W (HB.out.trans (hbW.mono hsz)))
        unfold StepP
        go_simp
        refine Hc2.out.mono ?_
        rintro e W2 ⟨rfl, hb3⟩
        refine hK _ _ (by intro F hF; simp at hF) hb3 ?_
        have hb3 := hbW.trans (hb3.mono hbW.size)
        clear hK K Hc2 hW
        intro v2 W3 hW3
        simp only [putS, List.foldl_nil, Act.put, pickOps, List.getElem?_cons_zero, List.getElem?_cons_succ]
        repeat (go_big_quiet_step (fail))
        refine wpQuiet_nil ?_
        refine ⟨by intro F hF; simp at hF, ?_⟩
        intro v3 W4 hW4 _
        have Hend := Lib.hid (hb3.trans ((hW3.trans (hW4.mono hW3.size)).mono hb3.size))
        simp only [Exit.then, putS, List.foldl_nil, Act.put]
        go_wp2_with fail
        go_meet
        exact ⟨by trivial, Hend.out⟩
      case' rest => skip
      obtain ⟨rfl, hb4⟩ := hcut
      obtain ⟨w4, hw4⟩ : ∃ v, v = wc := ⟨_, rfl⟩
      subst hw4
      have HM4 := Lib.hid (HM.out.below hb4 HM.out.lt)
      have HB4 := Lib.hid (HB.out.trans (hb4.mono hsz))
      clear hb4 HM HB Hrx Hry Hc
      by_cases hq : Q < 0
      · rw [decide_eq_true hq]
        have hmin' : ∀ (j : Nat) (z : Wm), j < k + 1 → ws[j]? = some z → Gr.Le y.w z.w := fun j z hj hz => by
          have hyx : Gr.Le y.w x.w := Gr.Le.of_lt (by rw [← HQ.out]; exact hq)
          by_cases hjk : j = k
          · subst hjk; rw [Hy.out] at hz; cases hz; exact Gr.Le.refl _
          · exact hyx.trans (Hmin.out j z (by omega) hz)
        have Hmin' := Lib.hid hmin'
        have Hry4 := Lib.hid (Hry0.out w4 HB4.out)
        have hmbw := Hmb.out
        have HMn := Lib.hid (show Blk (w4.setRow mb (wmV y).toArray) mb 70 (wmV y).toArray from setRow_heap _ _ _ _ _ _ HM4.out)
        have HBn := Lib.hid (Below.setRow HB4.out (show w1.heap.size ≤ mb by omega) (wmV y).toArray)
        have Hym := Lib.hid (List.mem_of_getElem? Hy.out)
        clear hmin' hq hmbw
        go_wp2_with (first | (refine wpList_load_mid rfl 70 (.tmp 30) rfl b (off + k * 4) rfl (wmV y) d70 Hry4.out hd70 hrow70 (by rw [wmV_len]; kernel_rfl) ?_) | (refine wpList_store_row rfl 70 (.tmp 5) (.tmp 31) rfl mb (wmV y).toArray rfl rfl 70 (wmV x).toArray HM4.out (size70 _ rfl) rfl (wy_one _ _ _ _ _ _) ?_))
        exact ⟨⟨k + 1, y, by go_num, by omega, by omega, Hym.out, Hmin'.out, HMn.out, HBn.out⟩, by simp [intOf]; omega⟩
      · rw [decide_eq_false hq]
        have hmin' : ∀ (j : Nat) (z : Wm), j < k + 1 → ws[j]? = some z → Gr.Le x.w z.w := fun j z hj hz => by
          by_cases hjk : j = k
          · subst hjk; rw [Hy.out] at hz; cases hz
            unfold Gr.Le
            have h1 := Gr.cmpW_neg x.w y.w
            have h2 := HQ.out
            omega
          · exact Hmin.out j z (by omega) hz
        have Hmin' := Lib.hid hmin'
        clear hmin' hq
        go_wp2_with fail
        exact ⟨⟨k + 1, x, by go_num, by omega, by omega, Hxm.out, Hmin'.out, HM4.out, HB4.out⟩, by simp [intOf]; omega⟩
    · obtain rfl : k = n := by omega
      have hO := HO1.out.below HB.out HO1.out.lt
      have HO := Lib.hid hO
      have HBe := Lib.hid (HB1.out.trans (HB.out.mono HB1.out.size))
      have hall : ∀ y ∈ ws, Gr.Le x.w y.w := fun y hy => by
        obtain ⟨j, hj, rfl⟩ := List.mem_iff_getElem.1 hy
        exact Hmin.out j _ (by have := Hlen.out; omega) (List.getElem?_eq_getElem hj)
      have Hall := Lib.hid hall
      have hd : decide ((k : Int) < (k : Int)) = false := by simp
      clear hO hall hlt
      go_wp2_with (first | (refine wpList_load_mid rfl 70 (.tmp 5) rfl mb 0 rfl (wmV x) d70 (Blk.range HM.out) hd70 hrow70 (by rw [wmV_len]; kernel_rfl) ?_) | (refine wpList_store_row rfl 70 (.tmp 4) (.tmp 32) rfl w.heap.size (wmV x).toArray rfl rfl 70 (wyC none 0 0 0 false false).toArray HO.out (size70 _ rfl) rfl (wy_one _ _ _ _ _ _) ?_))
      refine bodyPost_ret (results_cell_row rfl _ _ w.heap.size 70 (wmV x).toArray (0, 0) d70 rfl (setRow_heap _ _ _ _ _ _ HO.out) hd70 (by cases d70 <;> first | rfl | exact hrow70) (size70 _ rfl)) rfl ⟨⟨x, Hxm.out, rfl, Hall.out⟩, Below.setRow HBe.out (Nat.le_refl _) _⟩
end Go.Proofs.Ytgelchbbknckcaa
