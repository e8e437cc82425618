/- Package sign: Sign. -/
import Derived.Test.YtfdhiilhjfbehaaDoorS15
namespace Go.Proofs.YtfdhiilhjfbehaaDoor
open Go.RowKit Go.Sort

theorem results_rows2 {P : Program} {fn : Func} {p q u : Tmp} {ty ty2 : TypeId} (h : fn.results = #[.cell p ty, .cell q ty2, .tmp u]) (tmps : Array Value) (w : World) (g : Nat) (t : TypeId) (cs : Array Value) (fr : Nat × Nat) (d : TypeDesc) (g2 : Nat) (t2 : TypeId) (cs2 : Array Value) (fr2 : Nat × Nat) (d2 : TypeDesc)
    (hp : tmps.getD p undef = .pointer (some ⟨g, 0, none⟩)) (hg : w.heap[g]? = some (.cells cs t fr)) (hu : P.underlying ty = some d) (hd : d.isRow = true) (hi : (P.info? ty).map (·.size) = some cs.size)
    (hp2 : tmps.getD q undef = .pointer (some ⟨g2, 0, none⟩)) (hg2 : w.heap[g2]? = some (.cells cs2 t2 fr2)) (hu2 : P.underlying ty2 = some d2) (hd2 : d2.isRow = true) (hi2 : (P.info? ty2).map (·.size) = some cs2.size) :
    (results fn tmps).run P w = .ok (.tuple #[.agg cs, .agg cs2, tmps.getD u undef]) w := by
  have hp' : tmps[p]?.getD undef = .pointer (some ⟨g, 0, none⟩) := by simpa using hp
  have hq' : tmps[q]?.getD undef = .pointer (some ⟨g2, 0, none⟩) := by simpa using hp2
  simp [results, h, hp', hq', asAddr, run_loadVar_row w g t ty cs fr d hg hu (by cases d <;> first | rfl | exact hd) hi, run_loadVar_row w g2 t2 ty2 cs2 fr2 d2 hg2 hu2 (by cases d2 <;> first | rfl | exact hd2) hi2]
/-- The chains that were yielded so far. -/
def chOf (ds : List Nat) (pre : List Vp) : List Sum32 := pre.map fun x => stS x.2 (ds.getD (x.1 % 67) 0)
theorem chOf_snoc (ds : List Nat) (pre : List Vp) (x : Vp) : chOf ds (pre ++ [x]) = chOf ds pre ++ [stS x.2 (ds.getD (x.1 % 67) 0)] := by simp [chOf]
theorem chOf_vpL (k : Sc) (i : UInt8) (ds : List Nat) : ∀ c, c ≤ 67 → chOf ds (vpL k i c) = chainK k.s i ds c
  | 0, _ => rfl
  | c + 1, h => by rw [vpL_succ, chOf_snoc, chOf_vpL k i ds c (by omega), chainK]; dsimp only; rw [Nat.mod_eq_of_lt (show c < 67 by omega)]
/-- In the rounds. -/
def KRS (G : Nat) (N : Int) (ds : List Nat) (W2 : World) (pre : List Vp) (W : World) : Prop :=
  ∃ v : Value, Blk W G 37 #[.int .i64 N, v, .slice none 0 0] ∧ W.ownsRow W2.heap.size 26 32 v pre.length ((chOf ds pre).flatMap sumC) ∧ KeptIn (fun b => b < W2.heap.size ∧ b ≠ G) W2 W
theorem KRS.sz {G : Nat} {N : Int} {ds : List Nat} {W2 : World} {pre : List Vp} {W : World} (h : KRS G N ds W2 pre W) : W2.heap.size ≤ W.heap.size := by obtain ⟨v, _, _, h3⟩ := h; exact h3.size
theorem KRS.kept {G : Nat} {N : Int} {ds : List Nat} {W2 : World} {pre : List Vp} {W : World} (h : KRS G N ds W2 pre W) : KeptIn (fun b => b < W2.heap.size ∧ b ≠ G) W2 W := by obtain ⟨v, _, _, h3⟩ := h; exact h3
theorem krs_own {G : Nat} {N : Int} {ds : List Nat} {W2 : World} : OwnFrom W2.heap.size (KRS G N ds W2) := fun _ X Y row ⟨v, h1, h2, h3⟩ hg hr =>
  ⟨v, blk_nc h1 hg (fun r e => (hr r e).2), ownsRow_nc h2 hg (fun r e => (hr r e).2), ownFrom_keptIn (w := W2) (S := fun b => b < W2.heap.size ∧ b ≠ G) (β := Unit) (fun _ hk => hk.1) (fun _ hk => hk.1) () X Y row h3 hg hr⟩
/-- A claim that also says: no panic. -/
def noPanic (Q : Exit → Act → World → Prop) : Exit → Act → World → Prop := fun ex a w => (match ex with | .panic _ => False | _ => True) ∧ Q ex a w
theorem wp_noPanic {P : Program} {c : Code} {Q : Exit → Act → World → Prop} {a : Act} {w : World} (h : c.wp P (noPanic Q) a w) : c.wp P Q a w := Code.wp_mono (fun _ _ _ h => h.2) h
theorem off_nil (b : Nat) : offMarks [] b := fun d hd => by cases hd

set_option maxRecDepth 100000 in
set_option maxHeartbeats 1000000 in
theorem Sign_any (k : Sc) (A : Option Addr) (len cap : Nat) (bs : List UInt8) (w : World) (hg : Globs w) (hr : Rd w 1 A len (bs.map byteV)) (hlen : len ≤ 8796093021000) :
    Calls Tryd.prog 34 #[.agg (secV k).toArray, .slice A len cap] w fun e w' => (∃ (C : Option Addr) (n c : Nat) (D : Option Addr) (m d : Nat), e = .returned (.tuple #[.agg (sgV (signS k bs).1.i C n c D m d).toArray, .agg (secV (signS k bs).2.1).toArray, .int .i64 (signS k bs).2.2]) ∧ n ≤ c ∧ m ≤ d ∧ TRd w' 26 32 C n ((signS k bs).1.ch.flatMap sumC) ∧ TRd w' 26 32 D m ((signS k bs).1.pa.flatMap sumC)) ∧ Below w.heap.size w w' := by
  obtain ⟨i32, hi32, hz32, hs32, hy32⟩ := info_parts info32
  obtain ⟨i37, hi37, hz37, _, _⟩ := info_parts info37
  obtain ⟨i28, hi28, hz28, _, _⟩ := info_parts info28
  obtain ⟨i67, hi67, hz67, _, _⟩ := info_parts info67
  obtain ⟨d28, hd28, hrow28⟩ := und28
  obtain ⟨d37, hd37, hrow37⟩ := und37
  refine callsIn_wide.1 (callsIn_of_wp_marks (n := 3) Tryd.func34 rfl trivial (wpIn_wide.2 ?_) rfl)
  simp only [Tryd.ntmps34, List.size_toArray, List.length_cons, List.length_nil, Nat.reduceAdd, Nat.reduceSub, Array.replicate_succ, Array.replicate_zero, List.push_toArray, List.append_toArray, List.nil_append, List.cons_append]
  go_upto_region 1 with (first | (refine wpList_alloc0 rfl 37 rfl (sgV 0 none 0 0 none 0 0).toArray _ i37 hi37 hz37 rfl ?_; simp only [Act.put, List.setIfInBounds_toArray, List.set_cons_succ, List.set_cons_zero]) | (refine wpList_alloc0 rfl 28 rfl (secV sc0).toArray _ i28 hi28 hz28 rfl ?_; simp only [Act.put, List.setIfInBounds_toArray, List.set_cons_succ, List.set_cons_zero]))
  obtain ⟨w0, hw0⟩ : ∃ v, v = w.alloc (.cells (secV k).toArray 28) := ⟨_, rfl⟩
  obtain ⟨w1, hw1⟩ : ∃ w1, w1 = ((w.alloc (.cells (secV k).toArray 28)).alloc (.cells (sgV 0 none 0 0 none 0 0).toArray 37)).alloc (.cells (secV sc0).toArray 28) := ⟨_, rfl⟩
  have hB1 : Below w.heap.size w w1 := by rw [hw1]; exact (((Below.refl _ _).alloc (Nat.le_refl _) _).alloc (by simp) _).alloc (by simp; omega) _
  have hX1 : Blk w1 w.heap.size 28 (secV k).toArray := by rw [hw1]; exact ((Blk.new _ _ _).alloc _).alloc _
  have hY1 : Blk w1 (w.heap.size + 1) 37 (sgV 0 none 0 0 none 0 0).toArray := by
    have := (Blk.new (w.alloc (.cells (secV k).toArray 28)) 37 (sgV 0 none 0 0 none 0 0).toArray).alloc (.cells (secV sc0).toArray 28)
    rw [World.size_alloc] at this
    rw [hw1]; exact this
  have hZ1 : Blk w1 (w.heap.size + 1 + 1) 28 (secV sc0).toArray := by
    have := Blk.new ((w.alloc (.cells (secV k).toArray 28)).alloc (.cells (sgV 0 none 0 0 none 0 0).toArray 37)) 28 (secV sc0).toArray
    rw [World.size_alloc, World.size_alloc] at this
    rw [hw1]; exact this
  rw [← hw1]
  try simp only [World.size_alloc]
  clear hw1 hw0 w0
  have hsz1 := hB1.size
  have HB := Lib.hid hB1
  have HX := Lib.hid hX1
  have HY := Lib.hid hY1
  have HZ := Lib.hid hZ1
  have Hrg := Lib.hid (Blk.range hX1)
  clear hB1 hX1 hY1 hZ1
  go_wp2_with (refine wpList_load_mid rfl 28 (.tmp 2) rfl w.heap.size 0 rfl (secV k) d28 Hrg.out hd28 hrow28 (by rw [secV_len]; kernel_rfl) ?_)
  refine (valid_any k w1).mono ?_
  rintro e w2 ⟨rfl, hb2⟩
  replace HX := Lib.hid (HX.out.below hb2 HX.out.lt)
  replace HY := Lib.hid (HY.out.below hb2 HY.out.lt)
  replace HZ := Lib.hid (HZ.out.below hb2 HZ.out.lt)
  replace HB := Lib.hid (HB.out.trans (hb2.mono hsz1))
  have hsz2 := HB.out.size
  clear hb2 Hrg
  by_cases hv : validS k = true
  rotate_left
  · have hv' : validS k = false := by simpa using hv
    rw [hv']
    have HR1 := Lib.hid (show signS k bs = (sg0, sc0, 161) by unfold signS; rw [if_neg hv])
    have HY1 := Lib.hid (setRow_heap w2 (w.heap.size + 1) _ (sgV 0 none 0 0 none 0 0).toArray 37 (0, 0) HY.out)
    have HZ1 := Lib.hid (HZ.out.keptIn ((KeptIn.refl (fun b => b ≠ w.heap.size + 1) w2).setRow (g := w.heap.size + 1) (fun h => h rfl) (sgV 0 none 0 0 none 0 0).toArray) (show w.heap.size + 1 + 1 ≠ w.heap.size + 1 by omega))
    have HZ2 := Lib.hid (setRow_heap _ (w.heap.size + 1 + 1) _ (secV sc0).toArray 28 (0, 0) HZ1.out)
    have HY2 := Lib.hid (Blk.keptIn (show Blk (w2.setRow (w.heap.size + 1) (sgV 0 none 0 0 none 0 0).toArray) (w.heap.size + 1) 37 (sgV 0 none 0 0 none 0 0).toArray from HY1.out) ((KeptIn.refl (fun b => b ≠ w.heap.size + 1 + 1) _).setRow (g := w.heap.size + 1 + 1) (fun h => h rfl) (secV sc0).toArray) (show w.heap.size + 1 ≠ w.heap.size + 1 + 1 by omega))
    have HBe := Lib.hid (Below.setRow (Below.setRow HB.out (show w.heap.size ≤ w.heap.size + 1 by omega) (sgV 0 none 0 0 none 0 0).toArray) (show w.heap.size ≤ w.heap.size + 1 + 1 by omega) (secV sc0).toArray)
    clear hv hv' hr hg
    go_wp2_with (first | (refine wpList_buildN rfl 37 _ rfl [] rfl _ built37z ?_) | (refine wpList_buildN rfl 28 _ rfl [] rfl _ built28z ?_) | (refine wpList_store_row rfl 37 (.tmp 4) (.tmp 15) rfl (w.heap.size + 1) ((sgV 0 none 0 0 none 0 0)).toArray rfl rfl 37 _ HY.out (size37 _ rfl) rfl (sg_one _ _ _ _ _ _ _) ?_) | (refine wpList_store_row rfl 28 (.tmp 5) (.tmp 16) rfl (w.heap.size + 1 + 1) (secV sc0).toArray rfl rfl 28 _ HZ1.out (size28 _ (sec_size _)) ((sec_size _).trans (sec_size _).symm) (sec_one _) ?_))
    refine leaves_marks [] _ trivial (fun W' hW' => ?_)
    refine ⟨_, results_rows2 rfl _ _ (w.heap.size + 1) 37 (sgV 0 none 0 0 none 0 0).toArray (0, 0) d37 (w.heap.size + 1 + 1) 28 (secV sc0).toArray (0, 0) d28 rfl (Blk.keptIn HY2.out hW' (off_nil _)) hd37 hrow37 (size37 _ rfl) rfl (Blk.keptIn HZ2.out hW' (off_nil _)) hd28 hrow28 (size28 _ (sec_size _)), ⟨none, 0, 0, none, 0, 0, by rw [HR1.out]; rfl, by omega, by omega, by rw [HR1.out]; exact trd_nilS _, by rw [HR1.out]; exact trd_nilS _⟩, HBe.out.trans (hW'.below (fun b _ => off_nil b))⟩

  obtain ⟨H, N, e1, h2, e3, h4, h5, e6⟩ := valid_of hv
  rw [hv]
  obtain ⟨M, hM⟩ : ∃ M, M = 2 ^ H := ⟨_, rfl⟩
  have c1 : w2.cell? ⟨w.heap.size, 32, none⟩ = some (.int .i64 (H : Int)) := by rw [HX.out.cell, List.getElem?_toArray, sec_h, e1]
  have c2 : w2.cell? ⟨w.heap.size, 33, none⟩ = some (.int .i64 (N : Int)) := by rw [HX.out.cell, List.getElem?_toArray, sec_n, e3]
  have hsh : IntKind.i64.wrap (2 ^ H) = (M : Int) := by rw [hM]; rcases pow5n h2 with rfl | rfl | rfl | rfl | rfl <;> rfl
  have hM16 : M ≤ 16 := by omega
  have HM := Lib.hid hM
  have HV := Lib.hid hv
  have E1 := Lib.hid e1
  have E3 := Lib.hid e3
  have E6 := Lib.hid e6
  rw [← hM] at h4
  clear hv e1 e3 e6 h5 hM
  go_upto_region 3 with fail
  by_cases hNM : N = M
  · have dd : ((N : Int) == (M : Int)) = true := by rw [beq_iff_eq]; omega
    go_quiet (fail)
    obtain ⟨w3, hw3⟩ : ∃ v, v = w2.drewN nq := ⟨_, rfl⟩
    have hb3 : Below w2.heap.size w2 w3 := by rw [hw3]; exact below_drewN (Below.refl _ _) _
    rw [← hw3]
    clear hw3
    replace HY := Lib.hid (HY.out.below hb3 HY.out.lt)
    replace HZ := Lib.hid (HZ.out.below hb3 HZ.out.lt)
    replace HB := Lib.hid (HB.out.trans (hb3.mono hsz2))
    have HR1 := Lib.hid (show signS k bs = (sg0, sc0, 160) by unfold signS; rw [if_pos HV.out, if_pos (by rw [E3.out, E6.out, hNM, HM.out]; push_cast; rfl)])
    have HY1 := Lib.hid (setRow_heap w3 (w.heap.size + 1) _ (sgV 0 none 0 0 none 0 0).toArray 37 (0, 0) HY.out)
    have HZ1 := Lib.hid (HZ.out.keptIn ((KeptIn.refl (fun b => b ≠ w.heap.size + 1) w3).setRow (g := w.heap.size + 1) (fun h => h rfl) (sgV 0 none 0 0 none 0 0).toArray) (show w.heap.size + 1 + 1 ≠ w.heap.size + 1 by omega))
    have HZ2 := Lib.hid (setRow_heap _ (w.heap.size + 1 + 1) _ (secV sc0).toArray 28 (0, 0) HZ1.out)
    have HY2 := Lib.hid (Blk.keptIn (show Blk (w3.setRow (w.heap.size + 1) (sgV 0 none 0 0 none 0 0).toArray) (w.heap.size + 1) 37 (sgV 0 none 0 0 none 0 0).toArray from HY1.out) ((KeptIn.refl (fun b => b ≠ w.heap.size + 1 + 1) _).setRow (g := w.heap.size + 1 + 1) (fun h => h rfl) (secV sc0).toArray) (show w.heap.size + 1 ≠ w.heap.size + 1 + 1 by omega))
    have HBe := Lib.hid (Below.setRow (Below.setRow HB.out (show w.heap.size ≤ w.heap.size + 1 by omega) (sgV 0 none 0 0 none 0 0).toArray) (show w.heap.size ≤ w.heap.size + 1 + 1 by omega) (secV sc0).toArray)
    clear dd c1 c2 hsh hr HX hg hb3
    go_wp2_with (first | (refine wpList_buildN rfl 37 _ rfl [] rfl _ built37z ?_) | (refine wpList_buildN rfl 28 _ rfl [] rfl _ built28z ?_) | (refine wpList_store_row rfl 37 (.tmp 4) (.tmp 24) rfl (w.heap.size + 1) ((sgV 0 none 0 0 none 0 0)).toArray rfl rfl 37 _ HY.out (size37 _ rfl) rfl (sg_one _ _ _ _ _ _ _) ?_) | (refine wpList_store_row rfl 28 (.tmp 5) (.tmp 25) rfl (w.heap.size + 1 + 1) (secV sc0).toArray rfl rfl 28 _ HZ1.out (size28 _ (sec_size _)) ((sec_size _).trans (sec_size _).symm) (sec_one _) ?_))
    refine leaves_marks [] _ trivial (fun W' hW' => ?_)
    refine ⟨_, results_rows2 rfl _ _ (w.heap.size + 1) 37 (sgV 0 none 0 0 none 0 0).toArray (0, 0) d37 (w.heap.size + 1 + 1) 28 (secV sc0).toArray (0, 0) d28 rfl (Blk.keptIn HY2.out hW' (off_nil _)) hd37 hrow37 (size37 _ rfl) rfl (Blk.keptIn HZ2.out hW' (off_nil _)) hd28 hrow28 (size28 _ (sec_size _)), ⟨none, 0, 0, none, 0, 0, by rw [HR1.out]; rfl, by omega, by omega, by rw [HR1.out]; exact trd_nilS _, by rw [HR1.out]; exact trd_nilS _⟩, HBe.out.trans (hW'.below (fun b _ => off_nil b))⟩

  have dd : ((N : Int) == (M : Int)) = false := by rw [beq_eq_false_iff_ne]; omega
  go_quiet (fail)
  obtain ⟨w3, hw3⟩ : ∃ v, v = w2.drewN nq := ⟨_, rfl⟩
  have hb3 : Below w2.heap.size w2 w3 := by rw [hw3]; exact below_drewN (Below.refl _ _) _
  rw [← hw3]
  clear hw3
  replace HX := Lib.hid (HX.out.below hb3 HX.out.lt)
  replace HY := Lib.hid (HY.out.below hb3 HY.out.lt)
  replace HZ := Lib.hid (HZ.out.below hb3 HZ.out.lt)
  replace HB := Lib.hid (HB.out.trans (hb3.mono hsz2))
  have hsz3 := HB.out.size
  have c1 : w3.cell? ⟨w.heap.size, 32, none⟩ = some (.int .i64 (H : Int)) := by rw [HX.out.cell, List.getElem?_toArray, sec_h, E1.out]
  have c2 : w3.cell? ⟨w.heap.size, 33, none⟩ = some (.int .i64 (N : Int)) := by rw [HX.out.cell, List.getElem?_toArray, sec_n, E3.out]
  have Hn_ := Lib.hid (Blk.new w3 37 (sgV 0 none 0 0 none 0 0).toArray)
  have hNMl : N < M := by omega
  clear hb3 dd hsh
  go_upto_region 6 with (first | (refine wpList_buildN rfl 37 _ rfl [(0, .int .i64 (N : Int))] rfl _ (built37i _) ?_) | (refine wpList_alloc0 rfl 37 rfl (sgV 0 none 0 0 none 0 0).toArray _ i37 hi37 hz37 rfl ?_; simp only [Act.put, List.setIfInBounds_toArray, List.set_cons_succ, List.set_cons_zero]) | (refine wpList_store_row rfl 37 (.tmp 7) (.tmp 28) rfl w3.heap.size ((sgV (N : Int) none 0 0 none 0 0)).toArray rfl rfl 37 _ Hn_.out (size37 _ rfl) rfl (sg_one _ _ _ _ _ _ _) ?_))
  obtain ⟨G, hG⟩ : ∃ G, G = w3.heap.size := ⟨_, rfl⟩
  obtain ⟨w4, hw4⟩ : ∃ v, v = (w3.alloc (.cells (sgV 0 none 0 0 none 0 0).toArray 37)).setRow w3.heap.size (sgV (N : Int) none 0 0 none 0 0).toArray := ⟨_, rfl⟩
  have hb4 : Below w3.heap.size w3 w4 := by rw [hw4]; exact Below.setRow ((Below.refl _ _).alloc (Nat.le_refl _) _) (Nat.le_refl _) _
  have hG4 : Blk w4 G 37 (sgV (N : Int) none 0 0 none 0 0).toArray := by rw [hw4, hG]; exact setRow_heap _ _ _ _ _ _ Hn_.out
  rw [← hw4, ← hG]
  have hGs : w.heap.size + 1 + 1 < G := by rw [hG]; exact HZ.out.lt
  clear hw4 Hn_ c1 c2
  replace HX := Lib.hid (HX.out.below hb4 HX.out.lt)
  replace HY := Lib.hid (HY.out.below hb4 HY.out.lt)
  replace HZ := Lib.hid (HZ.out.below hb4 HZ.out.lt)
  replace HB := Lib.hid (HB.out.trans (hb4.mono hsz3))
  have hsz4 := HB.out.size
  clear hb4 hG
  have hg4 := hg.below HB.out
  go_upto_region 7 with fail
  refine (digits_any A len cap bs w4 hg4 (hr.below HB.out) hlen).mono ?_
  rintro e w5 ⟨rfl, hb5⟩
  replace HX := Lib.hid (HX.out.below hb5 HX.out.lt)
  replace HY := Lib.hid (HY.out.below hb5 HY.out.lt)
  replace HZ := Lib.hid (HZ.out.below hb5 HZ.out.lt)
  have HG := Lib.hid (hG4.below hb5 hG4.lt)
  replace HB := Lib.hid (HB.out.trans (hb5.mono hsz4))
  have hsz5 := HB.out.size
  have Hdl := Lib.hid (digS_len bs)
  obtain ⟨DV, hDV⟩ : ∃ V, V = (digS bs).map natV := ⟨_, rfl⟩
  rw [← hDV]
  have HDl := Lib.hid (show DV.length = 67 by rw [hDV, List.length_map, digS_len])
  have HD1 := Lib.hid (show ∀ u ∈ DV, u.oneCell' = true by rw [hDV]; exact oneN _)
  have HDV := Lib.hid hDV
  have Hn_ := Lib.hid (Blk.new w5 73 (List.replicate 67 (natV 0)).toArray)
  clear hG4 hb5 hr hg4 hDV
  go_upto_region 7 with (first | (refine wpList_alloc0 rfl 73 rfl (List.replicate 67 (natV 0)).toArray _ i67 hi67 hz67 rfl ?_; simp only [Act.put, List.setIfInBounds_toArray, List.set_cons_succ, List.set_cons_zero]) | (refine wpList_store_row rfl 73 (.tmp 8) (.tmp 30) rfl w5.heap.size DV.toArray rfl rfl 73 _ Hn_.out (by rw [List.size_toArray, HDl.out]; kernel_rfl) (by rw [List.size_toArray, List.size_toArray, HDl.out]; rfl) (all_oneCell_toArray HD1.out) ?_))
  obtain ⟨DB, hDB⟩ : ∃ G, G = w5.heap.size := ⟨_, rfl⟩
  obtain ⟨w6, hw6⟩ : ∃ v, v = (w5.alloc (.cells (List.replicate 67 (natV 0)).toArray 73)).setRow w5.heap.size DV.toArray := ⟨_, rfl⟩
  have hb6 : Below w5.heap.size w5 w6 := by rw [hw6]; exact Below.setRow ((Below.refl _ _).alloc (Nat.le_refl _) _) (Nat.le_refl _) _
  have hD6 : Blk w6 DB 73 DV.toArray := by rw [hw6, hDB]; exact setRow_heap _ _ _ _ _ _ Hn_.out
  rw [← hw6, ← hDB]
  have hDBs : G < DB := by rw [hDB]; exact HG.out.lt
  clear hw6 Hn_
  replace HX := Lib.hid (HX.out.below hb6 HX.out.lt)
  replace HY := Lib.hid (HY.out.below hb6 HY.out.lt)
  replace HZ := Lib.hid (HZ.out.below hb6 HZ.out.lt)
  replace HG := Lib.hid (HG.out.below hb6 HG.out.lt)
  replace HB := Lib.hid (HB.out.trans (hb6.mono hsz5))
  have HD := Lib.hid hD6
  have hsz6 := HB.out.size
  have hDl6 : DB < w6.heap.size := hD6.lt
  clear hb6 hDB hD6
  simp only [Act.put]
  have c2 : w6.cell? ⟨w.heap.size, 33, none⟩ = some (.int .i64 (N : Int)) := by rw [HX.out.cell, List.getElem?_toArray, sec_n, E3.out]
  have Hrg := Lib.hid (Blk.range HX.out)
  go_wp2_with (refine wpList_load_mid rfl 28 (.tmp 2) rfl w.heap.size 0 rfl (secV k) d28 Hrg.out hd28 hrow28 (by rw [secV_len]; kernel_rfl) ?_)
  refine (callsIn_wide.1 (values_in 0 k N w6)).mono ?_
  rintro e W2' ⟨rfl, hW2⟩
  have hbW2 : Below w6.heap.size w6 W2' := by rw [hW2]; exact ((Below.refl _ _).alloc (Nat.le_refl _) _).alloc (by simp) _
  have hK2 : Blk W2' w6.heap.size 28 (secV k).toArray := by rw [hW2]; exact (Blk.new w6 28 (secV k).toArray).alloc _
  have hI2 : Blk W2' (w6.heap.size + 1) 3 #[.int .i64 (N : Int)] := by
    have := Blk.new (w6.alloc (.cells (secV k).toArray 28)) 3 #[.int .i64 (N : Int)]
    rw [World.size_alloc] at this
    rw [hW2]; exact this
  have hsW2 : W2'.heap.size = w6.heap.size + 2 := by rw [hW2]; simp
  clear hW2
  obtain ⟨W2, hW2⟩ : ∃ v, v = W2' := ⟨_, rfl⟩
  subst hW2
  replace HX := Lib.hid (HX.out.below hbW2 HX.out.lt)
  replace HY := Lib.hid (HY.out.below hbW2 HY.out.lt)
  replace HZ := Lib.hid (HZ.out.below hbW2 HZ.out.lt)
  replace HG := Lib.hid (HG.out.below hbW2 HG.out.lt)
  replace HD := Lib.hid (HD.out.below hbW2 HD.out.lt)
  replace HB := Lib.hid (HB.out.trans (hbW2.mono hsz6))
  have hsz7 := HB.out.size
  have HK2 := Lib.hid hK2
  have HI2 := Lib.hid hI2
  have Hg2 := Lib.hid (hg.below HB.out)
  have hgs := hg.size
  have HKc := Lib.hid (fun (j : Nat) (v : Value) (hv : (secV k)[j]? = some v) => (show W2.cell? ⟨w6.heap.size, j, none⟩ = some v by rw [HK2.out.cell, List.getElem?_toArray]; exact hv))
  have HIc := Lib.hid (show W2.cell? ⟨w6.heap.size + 1, 0, none⟩ = some (.int .i64 (N : Int)) by rw [HI2.out.cell]; rfl)
  have hS : ∀ b, (b < W2.heap.size ∧ b ≠ G) → b < W2.heap.size := fun b h => h.1
  have h0 : KRS G (N : Int) (digS bs) W2 [] W2 := ⟨.slice none 0 0, HG.out, World.ownsRow_nil _ _ _ _, KeptIn.refl _ _⟩
  have H0 := Lib.hid h0
  clear hbW2 hK2 hI2 Hrg c2 h0 hg
  go_wp2_with fail
  refine wpIn_wide.1 (wpIn_rangeFunc_ownH (n := 3) rfl (by omega) (gf := 63) (lb := #[.pointer (some ⟨w6.heap.size, 0, none⟩), .pointer (some ⟨w6.heap.size + 1, 0, none⟩)]) rfl trivial (enters_of Tryd.func63 (by kernel_rfl) rfl)
    (values_stopsM 2 (by omega) w6.heap.size (w6.heap.size + 1) (fun b => b < W2.heap.size ∧ b ≠ G) k N (by omega) W2 Hg2.out HKc.out HIc.out hS ⟨by omega, by omega⟩ ⟨by omega, by omega⟩ ⟨by omega, by omega⟩ ⟨by omega, by omega⟩)
    keptK_t (keptK_b hS) (Below.refl _ _) (fun _ => rfl)
    (KRS G (N : Int) (digS bs) W2) (fun _ _ _ => False) krs_own (fun _ _ _ _ _ hs _ _ => hs) H0.out
    (fun x a' V => ∃ Bx, a' = { tmps := #[.agg (secV k).toArray, .slice A len cap, .pointer (some ⟨w.heap.size, 0, none⟩), undef, .pointer (some ⟨w.heap.size + 1, 0, none⟩), .pointer (some ⟨w.heap.size + 1 + 1, 0, none⟩), .int .i64 0, .pointer (some ⟨G, 0, none⟩), .pointer (some ⟨DB, 0, none⟩), .int .i64 ((x.1 % 67 : Nat) : Int), .pointer (some ⟨Bx, 0, none⟩), .bool false, .agg (secV k).toArray, .bool true, .bool false, undef, undef, .bool false, .pointer (some ⟨w.heap.size, 33, none⟩), .int .i64 (N : Int), .pointer (some ⟨w.heap.size, 32, none⟩), .int .i64 (H : Int), .int .i64 (M : Int), .bool false, undef, undef, .pointer (some ⟨w.heap.size, 33, none⟩), .int .i64 (N : Int), .agg (sgV (N : Int) none 0 0 none 0 0).toArray, .slice A len cap, .agg DV.toArray, .agg (secV k).toArray, .pointer (some ⟨w.heap.size, 33, none⟩), .int .i64 (N : Int), .func (.func 63) #[] #[.pointer (some ⟨w6.heap.size, 0, none⟩), .pointer (some ⟨w6.heap.size + 1, 0, none⟩)], .int .i64 ((x.1 % 67 : Nat) : Int), .agg (sumC x.2).toArray, undef, undef, undef, undef, undef, undef, undef, undef, undef, undef, undef, undef, undef, undef, undef, undef, undef, undef, undef, undef, undef, undef, undef, undef, undef], defers := [] } ∧ W2.heap.size ≤ Bx ∧ Blk V Bx 26 (sumC x.2).toArray)
    (fun x a' _ X Y row ⟨Bx, h1, h2, h3⟩ hg hr => ⟨Bx, h1, h2, blk_nc h3 hg (fun r e => (hr r e).2)⟩)
    ?assign ?body ?done ?stop)
  case assign =>
    rintro l pre x V K hKR hK
    have hn_ : Blk (V.alloc (.cells zero32 26)) V.heap.size 26 zero32 := Blk.new _ _ _
    have Hn_ := Lib.hid hn_
    have HKR := Lib.hid hKR
    clear hn_ hKR
    unfold vpM vpV
    dsimp only
    obtain ⟨q, hq⟩ : ∃ q, q = x.1 % 67 := ⟨_, rfl⟩
    rw [← hq] at hK ⊢
    have HK := Lib.hid hK
    clear hK hq
    simp only [List.zip_toArray, List.foldl_toArray, List.zip_cons_cons, List.zip_nil_right, List.foldl_cons, List.foldl_nil, List.setIfInBounds_toArray, List.set_cons_succ, List.set_cons_zero]
    gi_wp2_with (refine round_list (by repeat (first | exact letsOut_own | exact (fun ⟨_, _, h⟩ => h) | refine letsOut_then ?_ | refine letsOut_block ?_)) _ _ _ (by kernel_rfl) ?_)
    go_wp2_with (first | (refine wpList_alloc0 rfl 26 rfl zero32 _ i32 hi32 hz32 rfl ?_; simp only [Act.put, List.setIfInBounds_toArray, List.set_cons_succ, List.set_cons_zero]) | (refine wpList_store_row rfl 26 (.tmp 10) (.tmp 36) rfl (V.heap.size) (sumC x.2).toArray rfl rfl 26 _ Hn_.out (size32 _ (sum_size _)) ((zero32_size).trans (sum_size _).symm) (all_oneCell_toArray (oneB _)) ?_))
    obtain ⟨V', hV'⟩ : ∃ y, y = (V.alloc (.cells zero32 26)).setRow V.heap.size (sumC x.2).toArray := ⟨_, rfl⟩
    have hb : Below V.heap.size V V' := by rw [hV']; exact Below.setRow ((Below.refl _ _).alloc (Nat.le_refl _) _) (Nat.le_refl _) _
    have hX : Blk V' V.heap.size 26 (sumC x.2).toArray := by rw [hV']; exact setRow_heap _ _ _ _ _ _ Hn_.out
    rw [← hV']
    have hgb : V.grownBy V' none := ⟨hb.os, hb.tape, hb.output, hb.size, fun k hk _ => hb.block k hk⟩
    have hsV := HKR.out.sz
    exact HK.out _ V' ((KeepsOthers.of_grownBy hgb (fun _ _ e => by cases e)).from _) (KeptIn.of_below hb (fun b hb2 => by have := hb2.1; omega)) (krs_own pre V V' none HKR.out hgb (fun r e => by cases e)) ⟨V.heap.size, rfl, hsV, hX⟩
  case body =>
    rintro l pre x a' V hl ⟨r, hr0⟩ hKR ⟨Bx, rfl, hBx, hX⟩ hlt
    obtain ⟨q, hq⟩ : ∃ q, q = x.1 % 67 := ⟨_, rfl⟩
    have hq67 : q < 67 := by rw [hq]; omega
    obtain ⟨dg, hdg, hdl⟩ := digS_at (body := bs) hq67
    obtain ⟨E, hE⟩ : ∃ E, E = stS x.2 dg := ⟨_, rfl⟩
    have Hch := Lib.hid (show chOf (digS bs) (pre ++ [x]) = chOf (digS bs) pre ++ [E] by rw [chOf_snoc, hE, ← hq, List.getD_eq_getElem?_getD, hdg]; rfl)
    have HE := Lib.hid hE
    obtain ⟨v, hGv, hrow, hkv⟩ := hKR
    obtain ⟨vA, vc, rfl⟩ := ownsRow_slice hrow
    have hsV := hkv.size
    have hgV : Globs V := Hg2.out.keptIn hkv ⟨by omega, by omega⟩ ⟨by omega, by omega⟩
    have hDV : Blk V DB 73 DV.toArray := HD.out.keptIn hkv ⟨by omega, by omega⟩
    have HgV := Lib.hid hgV
    have Hrx := Lib.hid (Blk.range hX)
    have HGv := Lib.hid hGv
    have Hrow := Lib.hid hrow
    have Hkv := Lib.hid hkv
    have HXx := Lib.hid hX
    have HDv := Lib.hid (show ∀ W, Ext V W → W.cell? ⟨DB, q, none⟩ = some (.int .i64 (dg : Int)) from fun W h => by
      rw [(hDV.below (ext_below h) hDV.lt).cell, List.getElem?_toArray, HDV.out, List.getElem?_map, hdg]; rfl)
    have HGc := Lib.hid (show ∀ W, Ext V W → W.cell? ⟨G, 1, none⟩ = some (.slice vA pre.length vc) from fun W h => by rw [(hGv.below (ext_below h) hGv.lt).cell]; rfl)
    have HXc := Lib.hid (show ∀ W, Ext V W → W.rangeAt Bx 0 (sumC x.2) from fun W h => Blk.range (hX.below (ext_below h) hX.lt))
    have hlq : (q : Int) < 67 := by omega
    have hq0 : (0 : Int) ≤ (q : Int) := by omega
    rw [← hq]
    clear hX hGv hrow hkv hgV hDV hr0 hdg hE hq
    dsimp only
    gi_wp2_with fail
    refine round_region_reads_tail 8 [0, 1, 2, 3, 4, 5] 2 (by kernel_rfl) (by kernel_rfl) (by repeat (first | exact letsOut_own | refine letsOut_then ?_ | refine letsOut_block ?_)) (List.take_append_drop _ _) rfl (by kernel_rfl) (by kernel_rfl) (by kernel_rfl) (by decide) (by kernel_rfl) (by kernel_rfl) (fun _ _ d _ _ h => by cases d <;> exact h) (by kernel_rfl) (by kernel_rfl) rfl ?_
    simp only [pickOps, List.take_succ_cons, List.take_zero, List.getElem?_cons_zero, List.getElem?_cons_succ]
    refine wpQuiet_run rfl (.pointer (some ⟨G, 1, none⟩)) (fun w => by simp [execOp, go_sem]) ?_
    simp only [Act.put, List.setIfInBounds_toArray, List.set_cons_succ, List.set_cons_zero]
    refine wpQuiet_load1 rfl 35 (.tmp 37) rfl G 1 rfl _ _ Tryd.underlying35 rfl HGc.out ?_
    simp only [Act.put, List.setIfInBounds_toArray, List.set_cons_succ, List.set_cons_zero]
    refine wpQuiet_load_mid rfl 26 (.tmp 10) rfl Bx 0 rfl (sumC x.2) _ HXc.out und32 rfl (by rw [sumC_len]; kernel_rfl) ?_
    simp only [Act.put, List.setIfInBounds_toArray, List.set_cons_succ, List.set_cons_zero]
    refine wpQuiet_run rfl (.int .i64 (q : Int)) (fun w => by simp [execOp, go_sem]) ?_
    simp only [Act.put, List.setIfInBounds_toArray, List.set_cons_succ, List.set_cons_zero]
    refine wpQuiet_run rfl (.pointer (some ⟨DB, q, none⟩)) (fun w => by simp [execOp, go_sem]; intro h; exact absurd h (by omega)) ?_
    simp only [Act.put, List.setIfInBounds_toArray, List.set_cons_succ, List.set_cons_zero]
    refine wpQuiet_load1 rfl 3 (.tmp 41) rfl DB q rfl _ _ Tryd.underlying3 rfl HDv.out ?_
    simp only [Act.put, List.setIfInBounds_toArray, List.set_cons_succ, List.set_cons_zero]
    refine wpQuiet_nil ?_
    have hgd : Globs V.drew := HgV.out.below (Below.refl _ V).drew
    refine wpAnyH_one (i := 6) (by kernel_rfl) rfl (fun K hK => ?_)
    rw [if_pos (by rfl)]
    refine val_call (R := fun v W' => v = .agg (sumC E).toArray) 44 _ _ rfl (by kernel_rfl) [.agg (sumC x.2).toArray, .int .i64 (dg : Int)] rfl ((steps_any x.2 dg (by omega) V.drew hgd).mono (by rintro e W' ⟨rfl, hb⟩; exact ⟨_, rfl, hb, by rw [HE.out]⟩)) K ?_
    rintro _ V1 ⟨hb1, rfl⟩
    have hE1 : Ext V V1 := ext_trans (ext_drew (ext_refl V)) (ext_of hb1)
    refine hK _ _ hE1 ?_
    clear hK K
    simp only [Act.put, List.setIfInBounds_toArray, List.set_cons_succ, List.set_cons_zero]
    refine wpAnyH_one (i := 7) (by kernel_rfl) rfl (fun K hK => ?_)
    refine step_build1 rfl 35 26 (.tmp 43) rfl _ i32 _ 32 Tryd.underlying35 hi32 hz32 hs32 (by omega) (by omega) rfl (sum_size _) ?_
    obtain ⟨V2, hV2⟩ : ∃ y, y = V1.alloc (.cells (sumC E).toArray 26) := ⟨_, rfl⟩
    have hb12 : Below V1.heap.size V1 V2 := by rw [hV2]; exact (Below.refl _ _).alloc (Nat.le_refl _) _
    have hB2 : Blk V2 V1.heap.size 26 (sumC E).toArray := by rw [hV2]; exact Blk.new _ _ _
    rw [← hV2]
    refine hK _ _ (ext_trans hE1 (ext_of hb12)) ?_
    clear hK K hV2
    simp only [Act.put, List.setIfInBounds_toArray, List.set_cons_succ, List.set_cons_zero]
    refine wpAnyH_done (by kernel_rfl) ?_ _
    have hbV : Below V.heap.size V V2 := ((Below.refl _ V).drew.trans hb1).trans (hb12.mono hb1.size)
    have hgb : V.grownBy V2 none := ⟨hbV.os, hbV.tape, hbV.output, hbV.size, fun k hk _ => hbV.block k hk⟩
    have Hko := Lib.hid (KeepsOthers.of_grownBy hgb (fun _ _ e => by cases e))
    have hsW : W2.heap.size ≤ V2.heap.size := Nat.le_trans hsV hbV.size
    have hrow2 := ownsRow_nc Hrow.out hgb (fun r e => by cases e)
    have Hrow2 := Lib.hid hrow2
    have Happ := Lib.hid (show AppZ V2 W2.heap.size 26 32 (.slice vA pre.length vc) pre.length _ from .inr hrow2)
    have Hrd := Lib.hid (rd32_one hB2)
    have hG2 := HGv.out.below hbV HGv.out.lt
    have HG2 := Lib.hid hG2
    have HbV := Lib.hid hbV
    clear hb1 hE1 hb12 hB2 hbV hgb hrow2 hG2 hgd
    simp only [Exit.then, List.drop_succ_cons, List.drop_zero]
    have hGW2 : G < W2.heap.size := HG.out.lt
    go_wp2_with (at_builtin; refine wpList_appz rfl (.tmp 38) (.tmp 44) 35 rfl 26 i32 (.agg zero32) 32 32 Tryd.underlying35 hi32 hz32 hs32 hy32 rfl (by omega) W2.heap.size hsW (.slice vA pre.length vc) _ _ rfl Happ.out (some ⟨V1.heap.size, 0, none⟩) 1 1 (sumC E) rfl Hrd.out (oneB _) (by unfold maxLen; omega) (by omega) ?_; intro v9 V3 ha9 hg9; have hb9 : Below W2.heap.size V2 V3 := (Below.refl _ V2).grown hg9 hsW (fun g e => (Happ.out.lt g e).1); have hG9 := HG2.out.below hb9 hGW2; have g9 : V3.cell? ⟨G, 1, none⟩ = some (.slice vA pre.length vc) := (by rw [hG9.cell]; rfl); have fr9 := hG9.frozen 1; have Ha9 := Lib.hid ha9; obtain ⟨A9, c9, rfl, hc9, hr9⟩ := ha9.rd; have HG9 := Lib.hid hG9; have Hb9 := Lib.hid hb9; have Hg9 := Lib.hid hg9; clear hg9 hG9 hb9 hr9)
    have hrow9 : V3.ownsRow W2.heap.size 26 32 (.slice A9 (pre.length + 1) c9) (pre.length + 1) ((chOf (digS bs) (pre ++ [x])).flatMap sumC) := by
      rw [Hch.out, List.flatMap_append]
      rcases Ha9.out with ⟨h0, _⟩ | h
      · omega
      · simpa using h
    have hne : (Value.slice A9 (pre.length + 1) c9).ownBlock ≠ some G := fun e => by have := (hrow9.lt _ e).1; omega
    have hko9 : KeepsOthers V2 V3 := KeepsOthers.of_grownBy Hg9.out fun j o ej hj => by
      rcases Hrow2.out.2 with ⟨e, _⟩ | ⟨g, cap, cur, e, _, hgb, _⟩
      · rw [e] at ej; simp [Value.ownBlock] at ej
      · rw [e] at ej
        obtain rfl : g = j := by simpa [Value.ownBlock] using ej
        rw [hgb] at hj; cases hj; rfl
    have hkv2 : KeptIn (fun b => b < W2.heap.size ∧ b ≠ G) V (V3.setCell ⟨G, 1, none⟩ (.slice A9 (pre.length + 1) c9)) := ((KeptIn.of_below HbV.out (fun b hb => by have := hb.1; omega)).trans (KeptIn.of_below Hb9.out (fun b hb => hb.1))).setAt (fun h => h.2 rfl) _
    have hkf := ((Hko.out.trans hko9).trans (KeepsOthers.setCell V3 ⟨G, 1, none⟩ (.slice A9 (pre.length + 1) c9))).from W2.heap.size
    have hGn : Blk (V3.setCell ⟨G, 1, none⟩ (.slice A9 (pre.length + 1) c9)) G 37 #[.int .i64 (N : Int), .slice A9 (pre.length + 1) c9, .slice none 0 0] := heap_setCell_same V3 G 1 _ 37 _ HG9.out
    refine ⟨hkf, hkv2, .slice A9 (pre.length + 1) c9, hGn, ?_, Hkv.out.trans hkv2⟩
    rw [List.length_append]
    exact ownsRow_setCell_other hrow9 hne _
  case stop =>
    rintro D c pre V _ _ h _
    exact h.elim
  case done =>
    rintro D0 ys wr hD0 hys hKR hDm
    have hDlt := (Array.getElem?_eq_some_iff.1 hDm).1
    obtain ⟨v, hGr, hrow, hkr⟩ := hKR
    rw [hys, vpL_len, chOf_vpL k (UInt8.ofNat N) (digS bs) 67 (Nat.le_refl _)] at hrow
    obtain ⟨vA, vc, rfl⟩ := ownsRow_slice hrow
    have hvc := ownsRow_cap hrow
    have hszr := hkr.size
    have hGl : G < W2.heap.size := HG.out.lt
    have hmk : MarksOk [{ target := .collected D0, args := #[] }] wr := ⟨D0, rfl, hDm, (fun d hd => by cases hd), trivial⟩
    have Hmk := Lib.hid hmk
    have HXr := Lib.hid (HX.out.keptIn hkr ⟨by omega, by omega⟩)
    have Happ := Lib.hid (show AppZ wr W2.heap.size 26 32 (.slice vA 67 vc) 67 ((chainK k.s (UInt8.ofNat N) (digS bs) 67).flatMap sumC) from .inr hrow)
    have HGr := Lib.hid hGr
    have HKr := Lib.hid hkr
    have hgr : Globs wr := Hg2.out.keptIn hkr ⟨by omega, by omega⟩ ⟨by omega, by omega⟩
    have Hgr := Lib.hid hgr
    clear hmk hGr hrow hkr hys hDm hgr H0 HKc HIc HK2 HI2
    have HKeys := Lib.hid (show ∀ W, Globs W → _ from fun W hW => keys_any k H E1.out h2 W hW)
    rw [← HM.out] at HKeys
    have Hkl := Lib.hid (show ∀ x ∈ keysS k.s M, x.length ≤ 8796093022000 from fun x hx => by
      unfold keysS at hx
      obtain ⟨j, _, rfl⟩ := List.mem_map.1 hx
      show (chunkK _ _ 67).length ≤ _
      rw [chunkK_len]; omega)
    obtain ⟨C, hC⟩ : ∃ C : World → Prop, C = fun W' => KeptIn (fun b => b < wr.heap.size ∧ b ≠ G) wr W' := ⟨_, rfl⟩
    have HCk := Lib.hid (show ∀ W', KeptIn (fun b => b < wr.heap.size ∧ b ≠ G) wr W' → C W' from fun W' h => by rw [hC]; exact h)
    have hXl : w.heap.size < wr.heap.size := HXr.out.lt
    have HCx := Lib.hid (show ∀ W', C W' → Blk W' w.heap.size 28 (secV k).toArray from fun W' h => by rw [hC] at h; exact HXr.out.keptIn h ⟨hXl, by omega⟩)
    have HCr := Lib.hid (show ∀ W', C W' → W'.rangeAt w.heap.size 0 (secV k) from fun W' h => Blk.range (HCx.out W' h))
    have HCn := Lib.hid (show ∀ W', C W' → W'.cell? ⟨w.heap.size, 33, none⟩ = some (.int .i64 (N : Int)) from fun W' h => by rw [(HCx.out W' h).cell, List.getElem?_toArray, sec_n, E3.out])
    clear hC
    go_upto_region 11 with fail
    go_cut [] from 47 to 55 (fun wx => ∃ (D : Option Addr) (m d : Nat), m ≤ d ∧ Blk wx G 37 #[.int .i64 (N : Int), .slice vA 67 vc, .slice D m d] ∧ AppZ wx W2.heap.size 26 32 (.slice vA 67 vc) 67 ((chainK k.s (UInt8.ofNat N) (digS bs) 67).flatMap sumC) ∧ TRd wx 26 32 D m ((proofL ((keysS k.s M).map leafS) N).flatMap sumC) ∧ KeptIn (fun b => b < W2.heap.size ∧ b ≠ G) W2 wx ∧ KeptIn (fun b => b ≠ G ∧ b < wr.heap.size) wr wx)
    case first =>
      have Hkd := Lib.hid (show KeptIn (fun b => b < wr.heap.size ∧ b ≠ G) wr wr.drew from KeptIn.of_below (Below.refl _ wr).drew (fun b hb => hb.1))
      have hgd : Globs wr.drew := Hgr.out.below (Below.refl _ wr).drew
      refine wp_noPanic ?_
      refine wp_region_class C [0, 2, 3] 7 (by kernel_rfl) (by kernel_rfl) (fun _ _ d _ _ h => h.1.elim) (HCk.out _ Hkd.out) (by kernel_rfl) (by kernel_rfl) rfl ?_
      simp only [pickOps, List.getElem?_cons_zero, List.getElem?_cons_succ]
      refine wpQuiet_load_mid rfl 28 (.tmp 2) rfl w.heap.size 0 rfl (secV k) d28 HCr.out hd28 hrow28 (by rw [secV_len]; kernel_rfl) ?_
      simp only [Act.put, List.setIfInBounds_toArray, List.set_cons_succ, List.set_cons_zero]
      refine wpQuiet_run rfl (.pointer (some ⟨w.heap.size, 33, none⟩)) (fun w => by simp [execOp, go_sem]) ?_
      simp only [Act.put, List.setIfInBounds_toArray, List.set_cons_succ, List.set_cons_zero]
      refine wpQuiet_load1 rfl 3 (.tmp 50) rfl w.heap.size 33 rfl _ _ Tryd.underlying3 rfl HCn.out ?_
      simp only [Act.put, List.setIfInBounds_toArray, List.set_cons_succ, List.set_cons_zero]
      refine wpQuiet_nil ?_
      refine wpAnyH_one (i := 1) (by kernel_rfl) rfl (fun K hK => ?_)
      rw [if_pos (by rfl)]
      refine val_call (R := fun v W' => ∃ A : Option Addr, v = .slice A M M ∧ Lst W' A M (keysS k.s M)) 36 _ _ rfl (by kernel_rfl) [.agg (secV k).toArray] rfl ((HKeys.out wr.drew hgd).mono (by rintro e W' ⟨⟨A, vs, rfl, hr, hins⟩, hb⟩; exact ⟨_, rfl, hb, A, rfl, ⟨vs, hr, keysS_len _ _, fun j v c hv hc => ⟨(hins.2 j v c hv hc).1.rd, (hins.2 j v c hv hc).2⟩⟩⟩)) K ?_
      rintro v W3 ⟨hb3, A3, rfl, hls3⟩
      have hb3' : Below wr.heap.size wr W3 := (Below.refl _ wr).drew.trans hb3
      have hg3 : Globs W3 := Hgr.out.below hb3'
      have Hk3 := Lib.hid (show KeptIn (fun b => b < wr.heap.size ∧ b ≠ G) wr W3 from KeptIn.of_below hb3' (fun b hb => hb.1))
      refine hK _ _ (HCk.out _ Hk3.out) ?_
      clear hK K
      simp only [Act.put, List.setIfInBounds_toArray, List.set_cons_succ, List.set_cons_zero]
      refine wpAnyH_one (i := 4) (by kernel_rfl) rfl (fun K hK => ?_)
      rw [if_pos (by rfl)]
      refine val_call (R := fun v W' => ∃ (D : Option Addr) (m d : Nat), v = .tuple #[.slice D m d, .int .i64 0] ∧ m ≤ d ∧ TRd W' 26 32 D m ((proofL ((keysS k.s M).map leafS) N).flatMap sumC)) 27 _ _ rfl (by kernel_rfl) [.slice A3 M M, .int .i64 (N : Int)] rfl ((Proof_own A3 M M N (keysS k.s M) W3 hg3 hls3 (by omega) Hkl.out hNMl).mono (by rintro e W' ⟨D, m, d, rfl, hmd, htr, hb⟩; exact ⟨_, rfl, hb, D, m, d, rfl, hmd, TRd.of_own htr⟩)) K ?_
      rintro v W4 ⟨hb4, D, m, d, rfl, hmd, htr⟩
      have hb4' : Below wr.heap.size wr W4 := hb3'.trans (hb4.mono hb3'.size)
      have Hk4 := Lib.hid (show KeptIn (fun b => b < wr.heap.size ∧ b ≠ G) wr W4 from KeptIn.of_below hb4' (fun b hb => hb.1))
      refine hK _ _ (HCk.out _ Hk4.out) ?_
      clear hK K
      simp only [Act.put, List.setIfInBounds_toArray, List.set_cons_succ, List.set_cons_zero]
      refine wpAnyH_one (i := 5) (by kernel_rfl) rfl (fun K hK => ?_)
      rw [if_pos (by rfl)]
      unfold Oper.wp execOp
      simp [go_sem]
      refine hK _ _ (HCk.out _ Hk4.out) ?_
      clear hK K
      have hG4 := HGr.out.below hb4' HGr.out.lt
      have g4 : W4.cell? ⟨G, 2, none⟩ = some (.slice none 0 0) := by rw [hG4.cell]; rfl
      have fr4 := hG4.frozen 2
      have Hk5 := Lib.hid (show KeptIn (fun b => b < wr.heap.size ∧ b ≠ G) wr (W4.setCell ⟨G, 2, none⟩ (.slice D m d)) from Hk4.out.setAt (fun h => h.2 rfl) _)
      have HG5 := Lib.hid (show Blk (W4.setCell ⟨G, 2, none⟩ (.slice D m d)) G 37 #[.int .i64 (N : Int), .slice vA 67 vc, .slice D m d] from heap_setCell_same W4 G 2 _ 37 _ hG4)
      have Happ5 := Lib.hid ((Happ.out.below hb4' (Nat.le_refl _)).setAt (i := 2) (u := .slice D m d) hG4 (by decide))
      have Htr5 := Lib.hid (htr.kept hG4 (by decide) ((KeptIn.refl (fun k => k ≠ G) W4).setAt (p := ⟨G, 2, none⟩) (fun h => h rfl) (.slice D m d)))
      obtain ⟨W5, hW5⟩ : ∃ v, v = W4.setCell ⟨G, 2, none⟩ (.slice D m d) := ⟨_, rfl⟩
      have HW5 := Lib.hid hW5
      rw [← hW5] at Hk5 HG5 Happ5 Htr5
      have Hk05 := Lib.hid (HKr.out.trans (Hk5.out.weaken (fun b hb => ⟨by have := hb.1; omega, hb.2⟩)))
      have Hk06 := Lib.hid (show KeptIn (fun b => b ≠ G ∧ b < wr.heap.size) wr W5 from Hk5.out.weaken (fun b hb => ⟨hb.2, hb.1⟩))
      clear hb3 hb3' hb4 hb4' hls3 htr hG4 HCx HCr HCn hW5 hg3 hgd
      rw [HW5.out] at Hk5
      refine wpAnyH_two (i := 6) (j := 7) (by kernel_rfl) rfl rfl (fun K hK => ?_) (fun K hK => ?_)
      · rw [if_pos (by rfl)]
        unfold Oper.wp execOp
        simp [go_sem]
        refine hK _ _ (HCk.out _ Hk4.out) ?_
        clear hK K
        try simp only [Act.put, List.setIfInBounds_toArray, List.set_cons_succ, List.set_cons_zero]
        refine wpAnyH_two (i := 7) (j := 8) (by kernel_rfl) rfl rfl (fun K hK => ?_) (fun K hK => ?_)
        · rw [if_pos (by rfl)]
          unfold Oper.wp execOp
          simp [go_sem]
          refine hK _ _ (HCk.out _ Hk4.out) ?_
          clear hK K
          try simp only [Act.put, List.setIfInBounds_toArray, List.set_cons_succ, List.set_cons_zero]
          refine wpAnyH_one (i := 8) (by kernel_rfl) rfl (fun K hK => ?_)
          rw [if_pos (by rfl)]
          unfold Oper.wp execOp
          simp [go_sem]
          refine hK _ _ (HCk.out _ Hk4.out) ?_
          clear hK K
          try simp only [Act.put, List.setIfInBounds_toArray, List.set_cons_succ, List.set_cons_zero]
          refine wpAnyH_one (i := 9) (by kernel_rfl) rfl (fun K hK => ?_)
          rw [if_pos (by rfl)]
          unfold Oper.wp execOp
          simp [go_sem, g4, fr4]
          refine hK _ _ (HCk.out _ Hk5.out) ?_
          clear hK K
          refine wpAnyH_done (by kernel_rfl) ?_ _
          refine ⟨trivial, ?_⟩
          rw [← HW5.out]
          go_wp2_with fail
          go_meet
          exact ⟨D, m, d, hmd, HG5.out, Happ5.out, Htr5.out, Hk05.out, Hk06.out⟩
        · rw [if_pos (by rfl)]
          unfold Oper.wp execOp
          simp [go_sem]
          refine hK _ _ (HCk.out _ Hk4.out) ?_
          clear hK K
          try simp only [Act.put, List.setIfInBounds_toArray, List.set_cons_succ, List.set_cons_zero]
          refine wpAnyH_two (i := 7) (j := 9) (by kernel_rfl) rfl rfl (fun K hK => ?_) (fun K hK => ?_)
          · rw [if_pos (by rfl)]
            unfold Oper.wp execOp
            simp [go_sem]
            refine hK _ _ (HCk.out _ Hk4.out) ?_
            clear hK K
            try simp only [Act.put, List.setIfInBounds_toArray, List.set_cons_succ, List.set_cons_zero]
            refine wpAnyH_one (i := 9) (by kernel_rfl) rfl (fun K hK => ?_)
            rw [if_pos (by rfl)]
            unfold Oper.wp execOp
            simp [go_sem, g4, fr4]
            refine hK _ _ (HCk.out _ Hk5.out) ?_
            clear hK K
            refine wpAnyH_done (by kernel_rfl) ?_ _
            refine ⟨trivial, ?_⟩
            rw [← HW5.out]
            go_wp2_with fail
            go_meet
            exact ⟨D, m, d, hmd, HG5.out, Happ5.out, Htr5.out, Hk05.out, Hk06.out⟩
          · rw [if_pos (by rfl)]
            unfold Oper.wp execOp
            simp [go_sem, g4, fr4]
            refine hK _ _ (HCk.out _ Hk5.out) ?_
            clear hK K
            refine wpAnyH_one (i := 7) (by kernel_rfl) rfl (fun K hK => ?_)
            rw [if_pos (by rfl)]
            unfold Oper.wp execOp
            simp [go_sem]
            refine hK _ _ (HCk.out _ Hk5.out) ?_
            clear hK K
            try simp only [Act.put, List.setIfInBounds_toArray, List.set_cons_succ, List.set_cons_zero]
            refine wpAnyH_done (by kernel_rfl) ?_ _
            refine ⟨trivial, ?_⟩
            rw [← HW5.out]
            go_wp2_with fail
            go_meet
            exact ⟨D, m, d, hmd, HG5.out, Happ5.out, Htr5.out, Hk05.out, Hk06.out⟩
      · rw [if_pos (by rfl)]
        unfold Oper.wp execOp
        simp [go_sem]
        refine hK _ _ (HCk.out _ Hk4.out) ?_
        clear hK K
        try simp only [Act.put, List.setIfInBounds_toArray, List.set_cons_succ, List.set_cons_zero]
        refine wpAnyH_one (i := 6) (by kernel_rfl) rfl (fun K hK => ?_)
        rw [if_pos (by rfl)]
        unfold Oper.wp execOp
        simp [go_sem]
        refine hK _ _ (HCk.out _ Hk4.out) ?_
        clear hK K
        try simp only [Act.put, List.setIfInBounds_toArray, List.set_cons_succ, List.set_cons_zero]
        refine wpAnyH_one (i := 8) (by kernel_rfl) rfl (fun K hK => ?_)
        rw [if_pos (by rfl)]
        unfold Oper.wp execOp
        simp [go_sem]
        refine hK _ _ (HCk.out _ Hk4.out) ?_
        clear hK K
        try simp only [Act.put, List.setIfInBounds_toArray, List.set_cons_succ, List.set_cons_zero]
        refine wpAnyH_one (i := 9) (by kernel_rfl) rfl (fun K hK => ?_)
        rw [if_pos (by rfl)]
        unfold Oper.wp execOp
        simp [go_sem, g4, fr4]
        refine hK _ _ (HCk.out _ Hk5.out) ?_
        clear hK K
        refine wpAnyH_done (by kernel_rfl) ?_ _
        refine ⟨trivial, ?_⟩
        rw [← HW5.out]
        go_wp2_with fail
        go_meet
        exact ⟨D, m, d, hmd, HG5.out, Happ5.out, Htr5.out, Hk05.out, Hk06.out⟩
    case rest =>
      obtain ⟨D, m, d, hmd, hG5, happ5, htr5, hk5, hk6⟩ := hcut
      have hX5 := HX.out.keptIn hk5 (show w.heap.size < W2.heap.size ∧ w.heap.size ≠ G by omega)
      have hY5 := HY.out.keptIn hk5 (show (w.heap.size + 1) < W2.heap.size ∧ (w.heap.size + 1) ≠ G by omega)
      have hZ5 := HZ.out.keptIn hk5 (show (w.heap.size + 1 + 1) < W2.heap.size ∧ (w.heap.size + 1 + 1) ≠ G by omega)
      obtain ⟨k2, hk2⟩ : ∃ k2 : Sc, k2 = ⟨k.s, k.h, (N : Int) + 1⟩ := ⟨_, rfl⟩
      obtain ⟨W6, hW6⟩ : ∃ v, v = wc.setCell ⟨w.heap.size, 33, none⟩ (.int .i64 ((N : Int) + 1)) := ⟨_, rfl⟩
      have hkx : KeptIn (fun b => b ≠ w.heap.size) wc W6 := by rw [hW6]; exact (KeptIn.refl (fun b => b ≠ w.heap.size) wc).setAt (p := ⟨w.heap.size, 33, none⟩) (fun h => h rfl) (.int .i64 ((N : Int) + 1))
      have hX6 : Blk W6 w.heap.size 28 (secV k2).toArray := by
        have := heap_setCell_same wc w.heap.size 33 _ 28 (.int .i64 ((N : Int) + 1)) hX5
        rw [sec_set] at this
        rw [hW6, hk2]; exact this
      have hG6 := hG5.keptIn hkx (show G ≠ w.heap.size by omega)
      have hY6 := hY5.keptIn hkx (show (w.heap.size + 1) ≠ w.heap.size by omega)
      have hZ6 := hZ5.keptIn hkx (show (w.heap.size + 1 + 1) ≠ w.heap.size by omega)
      have happ6 := happ5.keptIn hX5 (by decide) hkx
      have htr6 := htr5.kept hX5 (by decide) hkx
      have hd6 : Below W6.heap.size W6 W6.drew := (Below.refl _ W6).drew
      have hkd : KeptIn (fun _ => True) W6 W6.drew := ⟨hd6.os, hd6.tape, hd6.output, hd6.size, fun _ _ => rfl⟩
      have hY6d := hY6.below hd6 hY6.lt
      have hZ6d := hZ6.below hd6 hZ6.lt
      have happ6d := happ6.below hd6 (Nat.le_refl _)
      have htr6d := htr6.below hd6
      have hkY := (KeptIn.refl (fun b => b ≠ (w.heap.size + 1)) W6.drew).setRow (g := (w.heap.size + 1)) (fun h => h rfl) (sgV (N : Int) vA 67 vc D m d).toArray
      have hY7 : Blk (W6.drew.setRow (w.heap.size + 1) (sgV (N : Int) vA 67 vc D m d).toArray) (w.heap.size + 1) 37 (sgV (N : Int) vA 67 vc D m d).toArray := setRow_heap _ _ _ _ _ _ hY6d
      have hZ7 := hZ6d.keptIn hkY (show (w.heap.size + 1 + 1) ≠ (w.heap.size + 1) by omega)
      have happ7 := happ6d.keptIn hY6d (by decide) hkY
      have htr7 := htr6d.kept hY6d (by decide) hkY
      obtain ⟨W7, hW7⟩ : ∃ v, v = W6.drew.setRow (w.heap.size + 1) (sgV (N : Int) vA 67 vc D m d).toArray := ⟨_, rfl⟩
      rw [← hW7] at hkY hY7 hZ7 happ7 htr7
      have hkZ := (KeptIn.refl (fun b => b ≠ (w.heap.size + 1 + 1)) W7).setRow (g := (w.heap.size + 1 + 1)) (fun h => h rfl) (secV k2).toArray
      have hZ8 : Blk (W7.setRow (w.heap.size + 1 + 1) (secV k2).toArray) (w.heap.size + 1 + 1) 28 (secV k2).toArray := setRow_heap _ _ _ _ _ _ hZ7
      have hY8 := hY7.keptIn hkZ (show (w.heap.size + 1) ≠ (w.heap.size + 1 + 1) by omega)
      have happ8 := happ7.keptIn hZ7 (by decide) hkZ
      have htr8 := htr7.kept hZ7 (by decide) hkZ
      obtain ⟨W8, hW8⟩ : ∃ v, v = W7.setRow (w.heap.size + 1 + 1) (secV k2).toArray := ⟨_, rfl⟩
      rw [← hW8] at hkZ hZ8 hY8 happ8 htr8
      have hk68 : KeptIn (fun b => b ≠ (w.heap.size + 1) ∧ b ≠ (w.heap.size + 1 + 1)) W6 W8 := ((hkd.weaken (fun _ _ => trivial)).trans (hkY.weaken (fun b hb => hb.1))).trans (hkZ.weaken (fun b hb => hb.2))
      have hk58 : KeptIn (fun b => b ≠ w.heap.size ∧ b ≠ (w.heap.size + 1) ∧ b ≠ (w.heap.size + 1 + 1)) wc W8 := (hkx.weaken (fun b hb => hb.1)).trans (hk68.weaken (fun b hb => hb.2))
      have hkm : KeptIn (fun b => b ≠ G ∧ b ≠ w.heap.size ∧ b ≠ (w.heap.size + 1) ∧ b ≠ (w.heap.size + 1 + 1) ∧ b < wr.heap.size) wr W8 := (hk6.weaken (fun b hb => ⟨hb.1, hb.2.2.2.2⟩)).trans (hk58.weaken (fun b hb => ⟨hb.2.1, hb.2.2.1, hb.2.2.2.1⟩))
      have hmk8 : MarksOk [{ target := .collected D0, args := #[] }] W8 := Hmk.out.off hkm (fun d hd b e => by
        rcases List.mem_cons.1 hd with rfl | hd
        · cases e; exact ⟨by omega, by omega, by omega, by omega, hDlt⟩
        · cases hd)
      have hB8 : Below w.heap.size w W8 := (HB.out.trans (hk5.below (fun b hb => ⟨by omega, by omega⟩))).trans (hk58.below (fun b hb => ⟨by omega, by omega, by omega⟩))
      have c5 : wc.cell? ⟨w.heap.size, 33, none⟩ = some (.int .i64 (N : Int)) := by rw [hX5.cell, List.getElem?_toArray, sec_n, E3.out]
      have fr5 := hX5.frozen 33
      have HSign := Lib.hid (sign_of bs HV.out E3.out E6.out (HM.out ▸ hNMl))
      rw [← HM.out, ← hk2] at HSign
      have HW6 := Lib.hid hW6
      have HW7 := Lib.hid hW7
      have HW8 := Lib.hid hW8
      have HX6 := Lib.hid hX6
      have HG6 := Lib.hid hG6
      have HY6 := Lib.hid hY6d
      have HZ7 := Lib.hid hZ7
      have HY8 := Lib.hid hY8
      have HZ8 := Lib.hid hZ8
      have Happ8 := Lib.hid happ8
      have Htr8 := Lib.hid htr8
      have Hmk8 := Lib.hid hmk8
      have HB8 := Lib.hid hB8
      have HkY := Lib.hid hkY
      have HkZ := Lib.hid hkZ
      clear hd6 hkd hY6d hZ6d happ6d htr6d hX5 hY5 hZ5 hkx hX6 hG6 hY6 hZ6 happ6 htr6 hkY hY7 hZ7 happ7 htr7 hkZ hZ8 hY8 happ8 htr8 hk68 hk58 hmk8 hB8 hG5 happ5 htr5 hk5 hk6 hW6 hW7 hW8 hk2 HCx HCr HCn
      go_upto_region 13 with fail
      rw [← HW6.out]
      obtain ⟨C, hC⟩ : ∃ C : World → Prop, C = fun W' => KeptIn (fun b => b < W6.heap.size ∧ b ≠ (w.heap.size + 1) ∧ b ≠ (w.heap.size + 1 + 1)) W6 W' := ⟨_, rfl⟩
      have HCk := Lib.hid (show ∀ W', KeptIn (fun b => b < W6.heap.size ∧ b ≠ (w.heap.size + 1) ∧ b ≠ (w.heap.size + 1 + 1)) W6 W' → C W' from fun W' h => by rw [hC]; exact h)
      have HCg := Lib.hid (show ∀ W', C W' → W'.rangeAt G 0 (sgV (N : Int) vA 67 vc D m d) from fun W' h => by rw [hC] at h; exact Blk.range (cs := (sgV (N : Int) vA 67 vc D m d)) (HG6.out.keptIn h ⟨HG6.out.lt, by omega, by omega⟩))
      have HCx := Lib.hid (show ∀ W', C W' → W'.rangeAt w.heap.size 0 (secV k2) from fun W' h => by rw [hC] at h; exact Blk.range (HX6.out.keptIn h ⟨HX6.out.lt, by omega, by omega⟩))
      have Hkd := Lib.hid (show KeptIn (fun b => b < W6.heap.size ∧ b ≠ (w.heap.size + 1) ∧ b ≠ (w.heap.size + 1 + 1)) W6 W6.drew from KeptIn.of_below (Below.refl _ W6).drew (fun b hb => hb.1))
      clear hC
      refine wp_noPanic ?_
      refine wp_region_class C [0, 1] 3 (by kernel_rfl) (by kernel_rfl) (fun _ _ d _ _ h => h.1.elim) (HCk.out _ Hkd.out) (by kernel_rfl) (by kernel_rfl) rfl ?_
      simp only [pickOps, List.getElem?_cons_zero, List.getElem?_cons_succ]
      refine wpQuiet_load_mid rfl 37 (.tmp 7) rfl G 0 rfl (sgV (N : Int) vA 67 vc D m d) d37 HCg.out hd37 hrow37 (by rw [sgV_len]; kernel_rfl) ?_
      simp only [Act.put, List.setIfInBounds_toArray, List.set_cons_succ, List.set_cons_zero]
      refine wpQuiet_load_mid rfl 28 (.tmp 2) rfl w.heap.size 0 rfl (secV k2) d28 HCx.out hd28 hrow28 (by rw [secV_len]; kernel_rfl) ?_
      simp only [Act.put, List.setIfInBounds_toArray, List.set_cons_succ, List.set_cons_zero]
      refine wpQuiet_nil ?_
      refine wpAnyH_one (i := 2) (by kernel_rfl) rfl (fun K hK => ?_)
      refine step_store_row rfl 37 (.tmp 4) (.tmp 60) rfl (w.heap.size + 1) (sgV (N : Int) vA 67 vc D m d).toArray rfl rfl 37 _ HY6.out (size37 _ rfl) rfl (sg_one _ _ _ _ _ _ _) ?_
      rw [← HW7.out]
      have hk7 : KeptIn (fun b => b < W6.heap.size ∧ b ≠ (w.heap.size + 1) ∧ b ≠ (w.heap.size + 1 + 1)) W6 W7 := Hkd.out.trans (HkY.out.weaken (fun b hb => hb.2.1))
      refine hK _ _ (HCk.out _ hk7) ?_
      clear hK K
      try simp only [Act.put]
      refine wpAnyH_one (i := 3) (by kernel_rfl) rfl (fun K hK => ?_)
      refine step_store_row rfl 28 (.tmp 5) (.tmp 61) rfl (w.heap.size + 1 + 1) (secV k2).toArray rfl rfl 28 _ HZ7.out (size28 _ (sec_size _)) ((sec_size _).trans (sec_size _).symm) (sec_one _) ?_
      rw [← HW8.out]
      have hk8 := hk7.trans (HkZ.out.weaken (fun b (hb : b < W6.heap.size ∧ b ≠ (w.heap.size + 1) ∧ b ≠ (w.heap.size + 1 + 1)) => hb.2.2))
      refine hK _ _ (HCk.out _ hk8) ?_
      clear hK K
      try simp only [Act.put]
      refine wpAnyH_one (i := 4) (by kernel_rfl) rfl (fun K hK => ?_)
      rw [if_pos (by rfl)]
      unfold Oper.wp execOp
      simp [go_sem]
      refine hK _ _ (HCk.out _ hk8) ?_
      clear hK K hk7 hk8
      try simp only [Act.put, List.setIfInBounds_toArray, List.set_cons_succ, List.set_cons_zero]
      refine wpAnyH_done (by kernel_rfl) ?_ _
      refine ⟨trivial, ?_⟩
      go_wp2_with fail
      refine leaves_marks [{ target := .collected D0, args := #[] }] W8 Hmk8.out (fun W' hW' => ?_)
      have hY9 := HY8.out.keptIn hW' (Hmk8.out.offb HY8.out)
      have hZ9 := HZ8.out.keptIn hW' (Hmk8.out.offb HZ8.out)
      refine ⟨_, results_rows2 rfl _ _ (w.heap.size + 1) 37 (sgV (N : Int) vA 67 vc D m d).toArray (0, 0) d37 (w.heap.size + 1 + 1) 28 (secV k2).toArray (0, 0) d28 rfl hY9 hd37 hrow37 (size37 _ rfl) rfl hZ9 hd28 hrow28 (size28 _ (sec_size _)), ⟨vA, 67, vc, D, m, d, by rw [HSign.out]; rfl, hvc, hmd, by rw [HSign.out]; exact Happ8.out.trd.keptIn hW' (fun b cur hb => Hmk8.out.offb hb), by rw [HSign.out]; exact Htr8.out.keptIn hW' (fun b cur hb => Hmk8.out.offb hb)⟩, HB8.out.trans (hW'.below (fun b hb d' hd e => by
        rcases List.mem_cons.1 hd with rfl | hd
        · cases e; omega
        · cases hd))⟩
end Go.Proofs.YtfdhiilhjfbehaaDoor
