/- Package net: Take; the reference's Take. -/
import Derived.Test.YteofgkdpknaapaaN20
namespace Go.Proofs.Yteofgkdpknaapaa
open Go.RowKit Go.Sort

section
variable {P : Program} {Q : Exit → Act → World → Prop} {S : World → Prop}
theorem wpAnyH_pair {md : Region.Mode} {l : List Oper} {i j : Nat} {oi oj : Oper} {fuel : Nat} {listed : Array Bool} {a : Act} {w : World} (hr : Region.ready md l.toArray listed = [i, j]) (hoi : l[i]? = some oi) (hoj : l[j]? = some oj) (gi : oi.guard = none) (gj : oj.guard = none)
    (hi : Val P Q oi a w (fun v w' => S w' ∧ wpAnyH P md l.toArray Q S fuel (listed.setIfInBounds i true) (a.put oi.dst v) w'))
    (hj : Val P Q oj a w (fun v w' => S w' ∧ wpAnyH P md l.toArray Q S fuel (listed.setIfInBounds j true) (a.put oj.dst v) w')) : wpAnyH P md l.toArray Q S (fuel + 1) listed a w := by
  refine wpAnyH_all hr (by simp) fun k hk => ?_
  rcases (show k = i ∨ k = j by simpa using hk) with rfl | rfl
  · refine wpOp_step (by simpa using hoi) fun K' hK => ?_
    rw [if_pos (by simp [Region.wanted, gi])]
    exact hi K' fun v w' h => hK _ _ h
  · refine wpOp_step (by simpa using hoj) fun K' hK => ?_
    rw [if_pos (by simp [Region.wanted, gj])]
    exact hj K' fun v w' h => hK _ _ h
theorem wp_region_held {id : Nat} {a : Act} {w : World} {l : List Oper} (hm : P.follows .mixedOrders = true) (h : wpAnyH P .any l.toArray Q S l.length (Array.replicate l.length false) a w.drew) : (Code.region id l.toArray true).wp P Q a w := by
  refine wp_region_any hm ?_
  have := wpAny_of_held _ _ _ _ h
  simpa using this
theorem val_store_row {o : Oper} {a : Act} {W : World} {R : Value → World → Prop} (ty : TypeId) (x y : Operand) (ho : o.op = .store ty x y) (g : Nat) (cells : Array Value) (hx : a.eval x = .pointer (some ⟨g, 0, none⟩)) (hy : a.eval y = .agg cells)
    (t : TypeId) (old : Array Value) (hg : W.heap[g]? = some (.cells old t (0, 0))) (hi : (P.info? ty).map (·.size) = some cells.size) (hold : old.size = cells.size) (h1 : cells.all (·.oneCell') = true) (h : R undef (W.setRow g cells)) : Val P Q o a W R :=
  fun _ hK => wp_store_row ty x y ho g cells hx hy t old hg hi hold h1 (hK _ _ h)
end
theorem results_rows2 {P : Program} {fn : Func} {p q u : Tmp} {ty ty2 : TypeId} (h : fn.results = #[.cell p ty, .cell q ty2, .tmp u]) (tmps : Array Value) (w : World) (g : Nat) (t : TypeId) (cs : Array Value) (fr : Nat × Nat) (d : TypeDesc) (g2 : Nat) (t2 : TypeId) (cs2 : Array Value) (fr2 : Nat × Nat) (d2 : TypeDesc)
    (hp : tmps.getD p undef = .pointer (some ⟨g, 0, none⟩)) (hg : w.heap[g]? = some (.cells cs t fr)) (hu : P.underlying ty = some d) (hd : d.isRow = true) (hi : (P.info? ty).map (·.size) = some cs.size)
    (hp2 : tmps.getD q undef = .pointer (some ⟨g2, 0, none⟩)) (hg2 : w.heap[g2]? = some (.cells cs2 t2 fr2)) (hu2 : P.underlying ty2 = some d2) (hd2 : d2.isRow = true) (hi2 : (P.info? ty2).map (·.size) = some cs2.size) :
    (results fn tmps).run P w = .ok (.tuple #[.agg cs, .agg cs2, tmps.getD u undef]) w := by
  have hp' : tmps[p]?.getD undef = .pointer (some ⟨g, 0, none⟩) := by simpa using hp
  have hq' : tmps[q]?.getD undef = .pointer (some ⟨g2, 0, none⟩) := by simpa using hp2
  simp [results, h, hp', hq', asAddr, run_loadVar_row w g t ty cs fr d hg hu (by cases d <;> first | rfl | exact hd) hi, run_loadVar_row w g2 t2 ty2 cs2 fr2 d2 hg2 hu2 (by cases d2 <;> first | rfl | exact hd2) hi2]
/-- What Take answers. -/
def takeP (ps : List Pk) (i : Int) : Pk × List Pk × Int := if 0 ≤ i ∧ i < (ps.length : Int) then (ps.getD i.toNat pk0, ps.eraseIdx i.toNat, 0) else (pk0, ps, 310)
def TakeQ (ps : List Pk) (i : Int) (w : World) (e : Ending) (w' : World) : Prop :=
  (∃ (v : Pv) (A : Option Addr) (N c : Nat), e = .returned (.tuple #[.agg (pvC v).toArray, netV A N c, .int .i64 (takeP ps i).2.2]) ∧ N ≤ c ∧ PvOk w' v (takeP ps i).1 ∧ PksAt w' A N (takeP ps i).2.1) ∧ Below w.heap.size w w'
theorem net_row {W : World} {g : Nat} {v : Value} (h : Blk W g 30 #[v]) : W.rangeAt g 0 [v] := fun q u hq => by
  rw [Nat.zero_add, h.cell, List.getElem?_toArray]
  exact hq
/-- Two rows are laid into variables of the call. -/
theorem two_store {w W : World} {g1 g2 : Nat} {t1 t2 : TypeId} {o1 o2 c1 c2 : Array Value} (hb : Below w.heap.size w W) (h1 : Blk W g1 t1 o1) (h2 : Blk W g2 t2 o2) (hne : g1 ≠ g2) (l1 : w.heap.size ≤ g1) (l2 : w.heap.size ≤ g2) :
    Blk ((W.setRow g1 c1).setRow g2 c2) g1 t1 c1 ∧ Blk ((W.setRow g1 c1).setRow g2 c2) g2 t2 c2 ∧ Blk (W.setRow g1 c1) g2 t2 o2 ∧ KeptIn (fun q => q ≠ g1 ∧ q ≠ g2) W ((W.setRow g1 c1).setRow g2 c2) ∧ Below w.heap.size w ((W.setRow g1 c1).setRow g2 c2) := by
  have e1 : Blk (W.setRow g1 c1) g1 t1 c1 := setRow_heap _ _ _ _ _ _ h1
  have k1 : KeptIn (fun q => q ≠ g1) W (W.setRow g1 c1) := (KeptIn.refl (fun q => q ≠ g1) W).setRow (g := g1) (fun h => h rfl) _
  have e2 : Blk (W.setRow g1 c1) g2 t2 o2 := h2.keptIn k1 hne.symm
  have k2 : KeptIn (fun q => q ≠ g2) (W.setRow g1 c1) ((W.setRow g1 c1).setRow g2 c2) := (KeptIn.refl (fun q => q ≠ g2) _).setRow (g := g2) (fun h => h rfl) _
  exact ⟨e1.keptIn k2 hne, setRow_heap _ _ _ _ _ _ e2, e2, (k1.mono fun q hq => hq.1).trans (k2.mono fun q hq => hq.2), hb.trans ((KeptIn.below k1 fun q hq => by omega).trans (KeptIn.below k2 fun q hq => by omega))⟩
theorem net_one (A : Option Addr) (n c : Nat) : (#[Value.slice A n c]).all (·.oneCell') = true := all_oneCell_toArray (cs := [.slice A n c]) fun v hv => by
  simp only [List.mem_cons, List.not_mem_nil, or_false] at hv
  subst hv
  rfl
theorem pv_row_one (v : Pv) : (pvC v).toArray.all (·.oneCell') = true := all_oneCell_toArray (pv_one v)
set_option maxRecDepth 100000 in
set_option maxHeartbeats 1000000 in
theorem Take_any (A : Option Addr) (n c : Nat) (ps : List Pk) (i : Int) (w : World) (h : PksAt w A n ps) (hnc : n ≤ c) (hn : n ≤ 10000) :
    Calls Try.prog 12 #[netV A n c, .int .i64 i] w (TakeQ ps i w) := by
  have hpl := h.len
  obtain ⟨w1, hw1⟩ : ∃ q, q = ((w.alloc (.cells #[.slice A n c] 30)).alloc (.cells (pvC pv0).toArray 39)).alloc (.cells #[.slice none 0 0] 30) := ⟨_, rfl⟩
  have hb1 : Below w.heap.size w w1 := by rw [hw1]; exact (((Below.refl _ _).alloc (Nat.le_refl _) _).alloc (by rw [World.size_alloc]; omega) _).alloc (by rw [World.size_alloc, World.size_alloc]; omega) _
  have hX1 : Blk w1 w.heap.size 30 #[.slice A n c] := by rw [hw1]; exact ((Blk.new w _ _).alloc _).alloc _
  have hP1 : Blk w1 (w.heap.size + 1) 39 (pvC pv0).toArray := by
    rw [hw1]
    have h := (Blk.new (w.alloc (.cells #[.slice A n c] 30)) 39 (pvC pv0).toArray).alloc (.cells #[.slice none 0 0] 30)
    rwa [World.size_alloc] at h
  have hN1 : Blk w1 (w.heap.size + 1 + 1) 30 #[.slice none 0 0] := by
    rw [hw1]
    have h := Blk.new ((w.alloc (.cells #[.slice A n c] 30)).alloc (.cells (pvC pv0).toArray 39)) 30 #[.slice none 0 0]
    rwa [World.size_alloc, World.size_alloc] at h
  have hh := has_any A n c i w1
  unfold netV at hh
  obtain ⟨d30, hd30, hrow30⟩ := und30
  obtain ⟨d39, hd39, hrow39⟩ := und39
  have HW1 := Lib.hid hw1
  have HB1 := Lib.hid hb1
  have HX1 := Lib.hid hX1
  have HP1 := Lib.hid hP1
  have HN1 := Lib.hid hN1
  have H := Lib.hid h
  clear hw1 hb1 hX1 hP1 hN1 h
  unfold netV
  go_enter Try.func12, Try.ntmps12
  go_upto_region 1 with (refine wpList_alloc0 rfl 39 rfl (pvC pv0).toArray _ (info_parts info39).choose (info_parts info39).choose_spec.1 (info_parts info39).choose_spec.2.1 rfl ?_; simp only [Act.put, List.setIfInBounds_toArray, List.set_cons_succ, List.set_cons_zero])
  rw [← HW1.out]
  go_wp2_with (refine wpList_load_mid rfl 30 (.tmp 2) rfl w.heap.size 0 rfl [.slice A n c] d30 (net_row HX1.out) hd30 hrow30 (by kernel_rfl) ?_)
  refine hh.mono ?_
  rintro e w2 ⟨rfl, hb2⟩
  have hXd := HX1.out.below hb2 HX1.out.lt
  have hPd := HP1.out.below hb2 HP1.out.lt
  have hNd := HN1.out.below hb2 HN1.out.lt
  have hBd : Below w.heap.size w w2.drew := HB1.out.trans ((hb2.mono HB1.out.size).drew)
  have hKs := (H.out.below HB1.out).below hb2
  have hs2 : w.heap.size + 1 + 1 < w2.heap.size := hNd.lt
  by_cases hi : 0 ≤ i ∧ i < (n : Int)
  · rw [decide_eq_true hi]
    obtain ⟨k, rfl⟩ := Int.eq_ofNat_of_zero_le hi.1
    have hkn : k < n := by omega
    have hk0 : (0 : Int) ≤ (k : Int) := by omega
    have hkn' : (k : Int) < (n : Int) := by omega
    obtain ⟨vs, ht, hp⟩ := H.out
    have hvl := ht.1.lenf pvC_len (by omega)
    obtain ⟨v, hv⟩ : ∃ q, vs[k]? = some q := ⟨_, List.getElem?_eq_getElem (by omega)⟩
    obtain ⟨p, hpk⟩ : ∃ q, ps[k]? = some q := ⟨_, List.getElem?_eq_getElem (by omega)⟩
    obtain ⟨cb, co, hAe, _⟩ := ht.1.2.2 (by omega)
    subst hAe
    have hwo := without_any (some ⟨cb, co, none⟩) n c k ps w2.drew (hKs.below ((Below.refl _ w2).drew)) hkn (by omega)
    unfold netV at hwo
    obtain ⟨SS, hSS⟩ : ∃ SS : World → Prop, SS = fun W => Below w2.heap.size w2 W := ⟨_, rfl⟩
    have hst : SS w2.drew := by rw [hSS]; exact (Below.refl w2.heap.size w2).drew
    have hcell : ∀ W, SS W → W.cell? ⟨w.heap.size, 0, none⟩ = some (.slice (some ⟨cb, co, none⟩) n c) := fun W hW => by
      rw [hSS] at hW
      exact ((hXd.below hW hXd.lt).cell 0).trans rfl
    have hrowN : ∀ W, SS W → W.rangeAt w.heap.size 0 [.slice (some ⟨cb, co, none⟩) n c] := fun W hW => by
      rw [hSS] at hW
      exact net_row (hXd.below hW hXd.lt)
    have hrowK : ∀ W, SS W → W.rangeAt cb (co + k * 7) (pvC v) := fun W hW => by
      rw [hSS] at hW
      exact rd_row pvC_len (by omega) (((ht.below HB1.out).below hb2).below hW).1 hv
    go_upto_region 3 with fail
    refine wp_region_reads_tailN (S := SS) 8 [0, 1, 2, 3, 4, 5, 6] 1 (by kernel_rfl) (List.take_append_drop _ _) rfl (by kernel_rfl) (by kernel_rfl) (by kernel_rfl) (by decide) (by kernel_rfl) (by kernel_rfl) (fun _ _ d _ _ h => by cases d <;> exact h) (by kernel_rfl) (by kernel_rfl) rfl hst ?_
    refine wpQuiet_val rfl (.pointer (some ⟨w.heap.size, 0, none⟩)) (fun W hW => by first | rfl | simp [execOp, go_sem]) ?_
    simp only [Act.put, List.setIfInBounds_toArray, List.set_cons_succ, List.set_cons_zero]
    refine wpQuiet_val rfl (.slice (some ⟨cb, co, none⟩) n c) (fun W hW => by have h0 := hcell W hW; first | rfl | simp [execOp, go_sem, h0]) ?_
    simp only [Act.put, List.setIfInBounds_toArray, List.set_cons_succ, List.set_cons_zero]
    refine wpQuiet_val rfl (.int .i64 (k : Int)) (fun W hW => by first | rfl | simp [execOp, go_sem]) ?_
    simp only [Act.put, List.setIfInBounds_toArray, List.set_cons_succ, List.set_cons_zero]
    refine wpQuiet_val rfl (.pointer (some ⟨cb, co + k * 7, none⟩)) (fun W hW => by simp [execOp, go_sem, hk0, hkn']) ?_
    simp only [Act.put, List.setIfInBounds_toArray, List.set_cons_succ, List.set_cons_zero]
    refine wpQuiet_load_mid_g (by kernel_rfl) 39 (.tmp 16) rfl cb (co + k * 7) rfl (pvC v) d39 hrowK hd39 hrow39 (by kernel_rfl) ?_
    simp only [Act.put, List.setIfInBounds_toArray, List.set_cons_succ, List.set_cons_zero]
    refine wpQuiet_load_mid_g (by kernel_rfl) 30 (.tmp 2) rfl w.heap.size (0) rfl ([.slice (some ⟨cb, co, none⟩) n c]) d30 hrowN hd30 hrow30 (by kernel_rfl) ?_
    simp only [Act.put, List.setIfInBounds_toArray, List.set_cons_succ, List.set_cons_zero]
    refine wpQuiet_val rfl (.int .i64 (k : Int)) (fun W hW => by first | rfl | simp [execOp, go_sem]) ?_
    simp only [Act.put, List.setIfInBounds_toArray, List.set_cons_succ, List.set_cons_zero]
    refine wpQuiet_nil ?_
    refine wpAnyH_val (i := 7) (by kernel_rfl) (by rfl) (by rfl) ?_
    refine val_callp 30 _ _ rfl (by kernel_rfl) [.agg #[.slice (some ⟨cb, co, none⟩) n c], .int .i64 (k : Int)] rfl (hwo.mono ?_)
    rintro e w5 ⟨⟨A5, c5, rfl, hc5, hq5, hf5⟩, hb5⟩
    left
    replace hb5 : Below w2.heap.size w2 w5 := ((Below.refl w2.heap.size w2).drew).trans hb5
    refine ⟨_, rfl, by rw [hSS]; exact hb5, ?_⟩
    unfold netV
    simp only [Act.put, List.setIfInBounds_toArray, List.set_cons_succ, List.set_cons_zero]
    refine wpAnyH_done (by kernel_rfl) ?_
    have hP5 := hPd.below hb5 hPd.lt
    have hN5 := hNd.below hb5 hNd.lt
    have hB5 : Below w.heap.size w w5 := HB1.out.trans ((hb2.mono HB1.out.size).trans (hb5.mono (Nat.le_trans HB1.out.size hb2.size)))
    obtain ⟨hP6, hN6, hN56, hk6, hb6⟩ := two_store (W := w5) (c1 := (pvC v).toArray) (c2 := #[.slice A5 (n - 1) c5]) hB5 hP5 hN5 (by omega) (by omega) (by omega)
    have hE : TakeQ ps (k : Int) w (.returned (.tuple #[.agg (pvC v).toArray, .agg #[.slice A5 (n - 1) c5], .int .i64 0])) ((w5.setRow (w.heap.size + 1) (pvC v).toArray).setRow (w.heap.size + 1 + 1) #[.slice A5 (n - 1) c5]) := by
      have e : takeP ps (k : Int) = (p, ps.eraseIdx k, 0) := by unfold takeP; rw [if_pos ⟨hk0, by rw [hpl]; exact hkn'⟩, Int.toNat_natCast, List.getD_eq_getElem?_getD, hpk]; rfl
      have hS : ∀ t, t ≠ 39 → t ≠ 30 → ∀ b cur, Blk w5 b t cur → b ≠ w.heap.size + 1 ∧ b ≠ w.heap.size + 1 + 1 := fun t h1 h2 b cur hb => ⟨hb.ne hP5 h1, hb.ne hN5 h2⟩
      refine ⟨⟨v, A5, n - 1, c5, by rw [e]; rfl, hc5, ?_, ?_⟩, hb6⟩
      · rw [e]
        exact ((((hp.2 k v p hv hpk).below HB1.out).below hb2).below hb5).keptIn hk6 (hS _ (by decide) (by decide)) (hS _ (by decide) (by decide)) (hS _ (by decide) (by decide))
      · rw [e]
        obtain ⟨us, hu, hq⟩ := hq5
        exact ⟨us, hu.keptOn hk6 (fun h0 b off e => by have h : w2.heap.size ≤ b := hf5 b off e; omega), hq.keptIn hk6 (hS _ (by decide) (by decide)) (hS _ (by decide) (by decide)) (hS _ (by decide) (by decide))⟩
    have HE := Lib.hid hE
    have Hst := Lib.hid hP5
    have HN56 := Lib.hid hN56
    have HP6 := Lib.hid hP6
    have HN6 := Lib.hid hN6
    clear hE hP5 hN5 hB5 hN56 hP6 hN6 hk6 hb6 hq5 hf5 hb5 hrowK hrowN hcell hst hSS hwo hp ht hKs hBd hNd hPd hXd hb2
    simp only [Exit.then, List.drop_succ_cons, List.drop_zero]
    refine wpList_store_row rfl 39 (.tmp 4) (.tmp 17) rfl (w.heap.size + 1) (pvC v).toArray rfl rfl 39 _ Hst.out (size39 _ rfl) rfl (pv_row_one _) ?_
    refine wpList_store_row rfl 30 (.tmp 5) (.tmp 20) rfl (w.heap.size + 1 + 1) #[.slice A5 (n - 1) c5] rfl rfl 30 _ HN56.out (size30 _ rfl) rfl (net_one _ _ _) ?_
    go_wp2_with fail
    exact bodyPost_ret (results_rows2 (p := 4) (q := 5) (u := 6) rfl _ _ (w.heap.size + 1) _ _ (0, 0) d39 (w.heap.size + 1 + 1) _ _ (0, 0) d30 rfl HP6.out hd39 hrow39 (size39 _ rfl) rfl HN6.out hd30 hrow30 (size30 _ rfl)) rfl HE.out
  · rw [decide_eq_false hi]
    obtain ⟨w3, hw3⟩ : ∃ q, q = w2.drew.setRow (w.heap.size + 1) (pvC pv0).toArray := ⟨_, rfl⟩
    obtain ⟨w4, hw4⟩ : ∃ q, q = w3.setRow (w.heap.size + 1 + 1) #[.slice A n c] := ⟨_, rfl⟩
    obtain ⟨hP4, hN4, hN3, hk4, hb4⟩ := two_store (W := w2.drew) (c1 := (pvC pv0).toArray) (c2 := #[.slice A n c]) hBd hPd hNd (by omega) (by omega) (by omega)
    rw [← hw3, ← hw4] at hP4 hN4 hk4 hb4
    rw [← hw3] at hN3
    have hX3 : Blk w3 w.heap.size 30 #[.slice A n c] := by rw [hw3]; exact Blk.keptIn (W := w2.drew) hXd ((KeptIn.refl (fun q => q ≠ w.heap.size + 1) w2.drew).setRow (g := w.heap.size + 1) (fun h => h rfl) _) (by omega)
    have hno : TakeQ ps i w (.returned (.tuple #[.agg (pvC pv0).toArray, .agg #[.slice A n c], .int .i64 310])) w4 := by
      have e : takeP ps i = (pk0, ps, 310) := by unfold takeP; rw [if_neg (by rw [hpl]; exact hi)]
      refine ⟨⟨pv0, A, n, c, by rw [e]; rfl, hnc, by rw [e]; exact pvOk0 _, ?_⟩, hb4⟩
      rw [e]
      exact H.out.below hb4
    have HW3 := Lib.hid hw3
    have HW4 := Lib.hid hw4
    have HP4 := Lib.hid hP4
    have HN4 := Lib.hid hN4
    have HN3 := Lib.hid hN3
    have HX3 := Lib.hid hX3
    have Hno := Lib.hid hno
    have HXd := Lib.hid (show Blk w2.drew w.heap.size 30 #[.slice A n c] from hXd)
    have HPd := Lib.hid (show Blk w2.drew (w.heap.size + 1) 39 (pvC pv0).toArray from hPd)
    clear hw3 hw4 hP4 hN4 hN3 hX3 hk4 hb4 hno hXd hPd hNd hBd hKs hh
    go_upto_region 2 with fail
    refine wp_region_held (S := fun _ => True) rfl ?_
    refine wpAnyH_pair (i := 0) (j := 1) (by kernel_rfl) rfl rfl rfl rfl ?_ ?_
    · refine valB (fun _ _ => trivial) ?_
      refine val_run (.agg (pvC pv0).toArray) (run_build_op 39 _ rfl [] rfl _ built39z _) ?_
      simp only [Act.put, List.setIfInBounds_toArray, List.set_cons_succ, List.set_cons_zero]
      refine wpAnyH_pair (i := 1) (j := 2) (by kernel_rfl) rfl rfl rfl rfl ?_ ?_
      · refine valB (fun _ _ => trivial) ?_
        refine val_load_row 30 (.tmp 2) rfl w.heap.size 0 rfl [.slice A n c] d30 (net_row HXd.out) hd30 hrow30 (by kernel_rfl) ?_
        simp only [Act.put, List.setIfInBounds_toArray, List.set_cons_succ, List.set_cons_zero]
        refine wpAnyH_val (i := 2) (by kernel_rfl) (by rfl) (by rfl) ?_
        refine val_store_row 39 (.tmp 4) (.tmp 11) rfl (w.heap.size + 1) (pvC pv0).toArray rfl rfl 39 _ HPd.out (size39 _ rfl) rfl (pv_row_one _) ?_
        refine ⟨trivial, ?_⟩
        simp only [Act.put]
        rw [← HW3.out]
        refine wpAnyH_val (i := 3) (by kernel_rfl) (by rfl) (by rfl) ?_
        refine val_store_row 30 (.tmp 5) (.tmp 12) rfl (w.heap.size + 1 + 1) #[.slice A n c] rfl rfl 30 _ HN3.out (size30 _ rfl) rfl (net_one _ _ _) ?_
        refine ⟨trivial, ?_⟩
        simp only [Act.put]
        rw [← HW4.out]
        refine wpAnyH_val (i := 4) (by kernel_rfl) (by rfl) (by rfl) ?_
        refine valB (fun _ _ => trivial) ?_
        refine val_run (.int .i64 310) rfl ?_
        simp only [Act.put, List.setIfInBounds_toArray, List.set_cons_succ, List.set_cons_zero]
        refine wpAnyH_done (by kernel_rfl) ?_
        go_wp2_with fail
        exact bodyPost_ret (results_rows2 (p := 4) (q := 5) (u := 6) rfl _ _ (w.heap.size + 1) _ _ (0, 0) d39 (w.heap.size + 1 + 1) _ _ (0, 0) d30 rfl HP4.out hd39 hrow39 (size39 _ rfl) rfl HN4.out hd30 hrow30 (size30 _ rfl)) rfl Hno.out
      · refine val_store_row 39 (.tmp 4) (.tmp 11) rfl (w.heap.size + 1) (pvC pv0).toArray rfl rfl 39 _ HPd.out (size39 _ rfl) rfl (pv_row_one _) ?_
        refine ⟨trivial, ?_⟩
        simp only [Act.put]
        rw [← HW3.out]
        refine wpAnyH_val (i := 1) (by kernel_rfl) (by rfl) (by rfl) ?_
        refine valB (fun _ _ => trivial) ?_
        refine val_load_row 30 (.tmp 2) rfl w.heap.size 0 rfl [.slice A n c] d30 (net_row HX3.out) hd30 hrow30 (by kernel_rfl) ?_
        simp only [Act.put, List.setIfInBounds_toArray, List.set_cons_succ, List.set_cons_zero]
        refine wpAnyH_val (i := 3) (by kernel_rfl) (by rfl) (by rfl) ?_
        refine val_store_row 30 (.tmp 5) (.tmp 12) rfl (w.heap.size + 1 + 1) #[.slice A n c] rfl rfl 30 _ HN3.out (size30 _ rfl) rfl (net_one _ _ _) ?_
        refine ⟨trivial, ?_⟩
        simp only [Act.put]
        rw [← HW4.out]
        refine wpAnyH_val (i := 4) (by kernel_rfl) (by rfl) (by rfl) ?_
        refine valB (fun _ _ => trivial) ?_
        refine val_run (.int .i64 310) rfl ?_
        simp only [Act.put, List.setIfInBounds_toArray, List.set_cons_succ, List.set_cons_zero]
        refine wpAnyH_done (by kernel_rfl) ?_
        go_wp2_with fail
        exact bodyPost_ret (results_rows2 (p := 4) (q := 5) (u := 6) rfl _ _ (w.heap.size + 1) _ _ (0, 0) d39 (w.heap.size + 1 + 1) _ _ (0, 0) d30 rfl HP4.out hd39 hrow39 (size39 _ rfl) rfl HN4.out hd30 hrow30 (size30 _ rfl)) rfl Hno.out
    · refine valB (fun _ _ => trivial) ?_
      refine val_load_row 30 (.tmp 2) rfl w.heap.size 0 rfl [.slice A n c] d30 (net_row HXd.out) hd30 hrow30 (by kernel_rfl) ?_
      simp only [Act.put, List.setIfInBounds_toArray, List.set_cons_succ, List.set_cons_zero]
      refine wpAnyH_val (i := 0) (by kernel_rfl) (by rfl) (by rfl) ?_
      refine valB (fun _ _ => trivial) ?_
      refine val_run (.agg (pvC pv0).toArray) (run_build_op 39 _ rfl [] rfl _ built39z _) ?_
      simp only [Act.put, List.setIfInBounds_toArray, List.set_cons_succ, List.set_cons_zero]
      refine wpAnyH_val (i := 2) (by kernel_rfl) (by rfl) (by rfl) ?_
      refine val_store_row 39 (.tmp 4) (.tmp 11) rfl (w.heap.size + 1) (pvC pv0).toArray rfl rfl 39 _ HPd.out (size39 _ rfl) rfl (pv_row_one _) ?_
      refine ⟨trivial, ?_⟩
      simp only [Act.put]
      rw [← HW3.out]
      refine wpAnyH_val (i := 3) (by kernel_rfl) (by rfl) (by rfl) ?_
      refine val_store_row 30 (.tmp 5) (.tmp 12) rfl (w.heap.size + 1 + 1) #[.slice A n c] rfl rfl 30 _ HN3.out (size30 _ rfl) rfl (net_one _ _ _) ?_
      refine ⟨trivial, ?_⟩
      simp only [Act.put]
      rw [← HW4.out]
      refine wpAnyH_val (i := 4) (by kernel_rfl) (by rfl) (by rfl) ?_
      refine valB (fun _ _ => trivial) ?_
      refine val_run (.int .i64 310) rfl ?_
      simp only [Act.put, List.setIfInBounds_toArray, List.set_cons_succ, List.set_cons_zero]
      refine wpAnyH_done (by kernel_rfl) ?_
      go_wp2_with fail
      exact bodyPost_ret (results_rows2 (p := 4) (q := 5) (u := 6) rfl _ _ (w.heap.size + 1) _ _ (0, 0) d39 (w.heap.size + 1 + 1) _ _ (0, 0) d30 rfl HP4.out hd39 hrow39 (size39 _ rfl) rfl HN4.out hd30 hrow30 (size30 _ rfl)) rfl Hno.out
set_option maxRecDepth 100000 in
set_option maxHeartbeats 1000000 in
theorem RTake_any (A : Option Addr) (n c : Nat) (ps : List Pk) (i : Int) (w : World) (h : PksAt w A n ps) (hnc : n ≤ c) (hn : n ≤ 10000) :
    Calls Try.prog 13 #[netV A n c, .int .i64 i] w (TakeQ ps i w) := by
  have hpl := h.len
  obtain ⟨w1, hw1⟩ : ∃ q, q = ((w.alloc (.cells #[.slice A n c] 30)).alloc (.cells (pvC pv0).toArray 39)).alloc (.cells #[.slice none 0 0] 30) := ⟨_, rfl⟩
  have hb1 : Below w.heap.size w w1 := by rw [hw1]; exact (((Below.refl _ _).alloc (Nat.le_refl _) _).alloc (by rw [World.size_alloc]; omega) _).alloc (by rw [World.size_alloc, World.size_alloc]; omega) _
  have hX1 : Blk w1 w.heap.size 30 #[.slice A n c] := by rw [hw1]; exact ((Blk.new w _ _).alloc _).alloc _
  have hP1 : Blk w1 (w.heap.size + 1) 39 (pvC pv0).toArray := by
    rw [hw1]
    have h := (Blk.new (w.alloc (.cells #[.slice A n c] 30)) 39 (pvC pv0).toArray).alloc (.cells #[.slice none 0 0] 30)
    rwa [World.size_alloc] at h
  have hN1 : Blk w1 (w.heap.size + 1 + 1) 30 #[.slice none 0 0] := by
    rw [hw1]
    have h := Blk.new ((w.alloc (.cells #[.slice A n c] 30)).alloc (.cells (pvC pv0).toArray 39)) 30 #[.slice none 0 0]
    rwa [World.size_alloc, World.size_alloc] at h
  have hh := Rhas_any A n c i w1
  unfold netV at hh
  obtain ⟨d30, hd30, hrow30⟩ := und30
  obtain ⟨d39, hd39, hrow39⟩ := und39
  have HW1 := Lib.hid hw1
  have HB1 := Lib.hid hb1
  have HX1 := Lib.hid hX1
  have HP1 := Lib.hid hP1
  have HN1 := Lib.hid hN1
  have H := Lib.hid h
  clear hw1 hb1 hX1 hP1 hN1 h
  unfold netV
  go_enter Try.func13, Try.ntmps13
  go_upto_region 1 with (refine wpList_alloc0 rfl 39 rfl (pvC pv0).toArray _ (info_parts info39).choose (info_parts info39).choose_spec.1 (info_parts info39).choose_spec.2.1 rfl ?_; simp only [Act.put, List.setIfInBounds_toArray, List.set_cons_succ, List.set_cons_zero])
  rw [← HW1.out]
  go_wp2_with (refine wpList_load_mid rfl 30 (.tmp 2) rfl w.heap.size 0 rfl [.slice A n c] d30 (net_row HX1.out) hd30 hrow30 (by kernel_rfl) ?_)
  refine hh.mono ?_
  rintro e w2 ⟨rfl, hb2⟩
  have hXd := HX1.out.below hb2 HX1.out.lt
  have hPd := HP1.out.below hb2 HP1.out.lt
  have hNd := HN1.out.below hb2 HN1.out.lt
  have hBd : Below w.heap.size w w2.drew := HB1.out.trans ((hb2.mono HB1.out.size).drew)
  have hKs := (H.out.below HB1.out).below hb2
  have hs2 : w.heap.size + 1 + 1 < w2.heap.size := hNd.lt
  by_cases hi : 0 ≤ i ∧ i < (n : Int)
  · rw [decide_eq_true hi]
    obtain ⟨k, rfl⟩ := Int.eq_ofNat_of_zero_le hi.1
    have hkn : k < n := by omega
    have hk0 : (0 : Int) ≤ (k : Int) := by omega
    have hkn' : (k : Int) < (n : Int) := by omega
    obtain ⟨vs, ht, hp⟩ := H.out
    have hvl := ht.1.lenf pvC_len (by omega)
    obtain ⟨v, hv⟩ : ∃ q, vs[k]? = some q := ⟨_, List.getElem?_eq_getElem (by omega)⟩
    obtain ⟨p, hpk⟩ : ∃ q, ps[k]? = some q := ⟨_, List.getElem?_eq_getElem (by omega)⟩
    obtain ⟨cb, co, hAe, _⟩ := ht.1.2.2 (by omega)
    subst hAe
    have hwo := Rwithout_any (some ⟨cb, co, none⟩) n c k ps w2.drew (hKs.below ((Below.refl _ w2).drew)) hkn hnc (by omega)
    unfold netV at hwo
    obtain ⟨SS, hSS⟩ : ∃ SS : World → Prop, SS = fun W => Below w2.heap.size w2 W := ⟨_, rfl⟩
    have hst : SS w2.drew := by rw [hSS]; exact (Below.refl w2.heap.size w2).drew
    have hcell : ∀ W, SS W → W.cell? ⟨w.heap.size, 0, none⟩ = some (.slice (some ⟨cb, co, none⟩) n c) := fun W hW => by
      rw [hSS] at hW
      exact ((hXd.below hW hXd.lt).cell 0).trans rfl
    have hrowN : ∀ W, SS W → W.rangeAt w.heap.size 0 [.slice (some ⟨cb, co, none⟩) n c] := fun W hW => by
      rw [hSS] at hW
      exact net_row (hXd.below hW hXd.lt)
    have hrowK : ∀ W, SS W → W.rangeAt cb (co + k * 7) (pvC v) := fun W hW => by
      rw [hSS] at hW
      exact rd_row pvC_len (by omega) (((ht.below HB1.out).below hb2).below hW).1 hv
    go_upto_region 3 with fail
    refine wp_region_reads_tailN (S := SS) 8 [0, 1, 2, 3, 4, 5, 6] 1 (by kernel_rfl) (List.take_append_drop _ _) rfl (by kernel_rfl) (by kernel_rfl) (by kernel_rfl) (by decide) (by kernel_rfl) (by kernel_rfl) (fun _ _ d _ _ h => by cases d <;> exact h) (by kernel_rfl) (by kernel_rfl) rfl hst ?_
    refine wpQuiet_val rfl (.pointer (some ⟨w.heap.size, 0, none⟩)) (fun W hW => by first | rfl | simp [execOp, go_sem]) ?_
    simp only [Act.put, List.setIfInBounds_toArray, List.set_cons_succ, List.set_cons_zero]
    refine wpQuiet_val rfl (.slice (some ⟨cb, co, none⟩) n c) (fun W hW => by have h0 := hcell W hW; first | rfl | simp [execOp, go_sem, h0]) ?_
    simp only [Act.put, List.setIfInBounds_toArray, List.set_cons_succ, List.set_cons_zero]
    refine wpQuiet_val rfl (.int .i64 (k : Int)) (fun W hW => by first | rfl | simp [execOp, go_sem]) ?_
    simp only [Act.put, List.setIfInBounds_toArray, List.set_cons_succ, List.set_cons_zero]
    refine wpQuiet_val rfl (.pointer (some ⟨cb, co + k * 7, none⟩)) (fun W hW => by simp [execOp, go_sem, hk0, hkn']) ?_
    simp only [Act.put, List.setIfInBounds_toArray, List.set_cons_succ, List.set_cons_zero]
    refine wpQuiet_load_mid_g (by kernel_rfl) 39 (.tmp 16) rfl cb (co + k * 7) rfl (pvC v) d39 hrowK hd39 hrow39 (by kernel_rfl) ?_
    simp only [Act.put, List.setIfInBounds_toArray, List.set_cons_succ, List.set_cons_zero]
    refine wpQuiet_load_mid_g (by kernel_rfl) 30 (.tmp 2) rfl w.heap.size (0) rfl ([.slice (some ⟨cb, co, none⟩) n c]) d30 hrowN hd30 hrow30 (by kernel_rfl) ?_
    simp only [Act.put, List.setIfInBounds_toArray, List.set_cons_succ, List.set_cons_zero]
    refine wpQuiet_val rfl (.int .i64 (k : Int)) (fun W hW => by first | rfl | simp [execOp, go_sem]) ?_
    simp only [Act.put, List.setIfInBounds_toArray, List.set_cons_succ, List.set_cons_zero]
    refine wpQuiet_nil ?_
    refine wpAnyH_val (i := 7) (by kernel_rfl) (by rfl) (by rfl) ?_
    refine val_callp 32 _ _ rfl (by kernel_rfl) [.agg #[.slice (some ⟨cb, co, none⟩) n c], .int .i64 (k : Int)] rfl (hwo.mono ?_)
    rintro e w5 ⟨⟨A5, c5, rfl, hc5, hq5, hf5⟩, hb5⟩
    left
    replace hb5 : Below w2.heap.size w2 w5 := ((Below.refl w2.heap.size w2).drew).trans hb5
    refine ⟨_, rfl, by rw [hSS]; exact hb5, ?_⟩
    unfold netV
    simp only [Act.put, List.setIfInBounds_toArray, List.set_cons_succ, List.set_cons_zero]
    refine wpAnyH_done (by kernel_rfl) ?_
    have hP5 := hPd.below hb5 hPd.lt
    have hN5 := hNd.below hb5 hNd.lt
    have hB5 : Below w.heap.size w w5 := HB1.out.trans ((hb2.mono HB1.out.size).trans (hb5.mono (Nat.le_trans HB1.out.size hb2.size)))
    obtain ⟨hP6, hN6, hN56, hk6, hb6⟩ := two_store (W := w5) (c1 := (pvC v).toArray) (c2 := #[.slice A5 (n - 1) c5]) hB5 hP5 hN5 (by omega) (by omega) (by omega)
    have hE : TakeQ ps (k : Int) w (.returned (.tuple #[.agg (pvC v).toArray, .agg #[.slice A5 (n - 1) c5], .int .i64 0])) ((w5.setRow (w.heap.size + 1) (pvC v).toArray).setRow (w.heap.size + 1 + 1) #[.slice A5 (n - 1) c5]) := by
      have e : takeP ps (k : Int) = (p, ps.eraseIdx k, 0) := by unfold takeP; rw [if_pos ⟨hk0, by rw [hpl]; exact hkn'⟩, Int.toNat_natCast, List.getD_eq_getElem?_getD, hpk]; rfl
      have hS : ∀ t, t ≠ 39 → t ≠ 30 → ∀ b cur, Blk w5 b t cur → b ≠ w.heap.size + 1 ∧ b ≠ w.heap.size + 1 + 1 := fun t h1 h2 b cur hb => ⟨hb.ne hP5 h1, hb.ne hN5 h2⟩
      refine ⟨⟨v, A5, n - 1, c5, by rw [e]; rfl, hc5, ?_, ?_⟩, hb6⟩
      · rw [e]
        exact ((((hp.2 k v p hv hpk).below HB1.out).below hb2).below hb5).keptIn hk6 (hS _ (by decide) (by decide)) (hS _ (by decide) (by decide)) (hS _ (by decide) (by decide))
      · rw [e]
        obtain ⟨us, hu, hq⟩ := hq5
        exact ⟨us, hu.keptOn hk6 (fun h0 b off e => by have h : w2.heap.size ≤ b := hf5 b off e; omega), hq.keptIn hk6 (hS _ (by decide) (by decide)) (hS _ (by decide) (by decide)) (hS _ (by decide) (by decide))⟩
    have HE := Lib.hid hE
    have Hst := Lib.hid hP5
    have HN56 := Lib.hid hN56
    have HP6 := Lib.hid hP6
    have HN6 := Lib.hid hN6
    clear hE hP5 hN5 hB5 hN56 hP6 hN6 hk6 hb6 hq5 hf5 hb5 hrowK hrowN hcell hst hSS hwo hp ht hKs hBd hNd hPd hXd hb2
    simp only [Exit.then, List.drop_succ_cons, List.drop_zero]
    refine wpList_store_row rfl 39 (.tmp 4) (.tmp 17) rfl (w.heap.size + 1) (pvC v).toArray rfl rfl 39 _ Hst.out (size39 _ rfl) rfl (pv_row_one _) ?_
    refine wpList_store_row rfl 30 (.tmp 5) (.tmp 20) rfl (w.heap.size + 1 + 1) #[.slice A5 (n - 1) c5] rfl rfl 30 _ HN56.out (size30 _ rfl) rfl (net_one _ _ _) ?_
    go_wp2_with fail
    exact bodyPost_ret (results_rows2 (p := 4) (q := 5) (u := 6) rfl _ _ (w.heap.size + 1) _ _ (0, 0) d39 (w.heap.size + 1 + 1) _ _ (0, 0) d30 rfl HP6.out hd39 hrow39 (size39 _ rfl) rfl HN6.out hd30 hrow30 (size30 _ rfl)) rfl HE.out
  · rw [decide_eq_false hi]
    obtain ⟨w3, hw3⟩ : ∃ q, q = w2.drew.setRow (w.heap.size + 1) (pvC pv0).toArray := ⟨_, rfl⟩
    obtain ⟨w4, hw4⟩ : ∃ q, q = w3.setRow (w.heap.size + 1 + 1) #[.slice A n c] := ⟨_, rfl⟩
    obtain ⟨hP4, hN4, hN3, hk4, hb4⟩ := two_store (W := w2.drew) (c1 := (pvC pv0).toArray) (c2 := #[.slice A n c]) hBd hPd hNd (by omega) (by omega) (by omega)
    rw [← hw3, ← hw4] at hP4 hN4 hk4 hb4
    rw [← hw3] at hN3
    have hX3 : Blk w3 w.heap.size 30 #[.slice A n c] := by rw [hw3]; exact Blk.keptIn (W := w2.drew) hXd ((KeptIn.refl (fun q => q ≠ w.heap.size + 1) w2.drew).setRow (g := w.heap.size + 1) (fun h => h rfl) _) (by omega)
    have hno : TakeQ ps i w (.returned (.tuple #[.agg (pvC pv0).toArray, .agg #[.slice A n c], .int .i64 310])) w4 := by
      have e : takeP ps i = (pk0, ps, 310) := by unfold takeP; rw [if_neg (by rw [hpl]; exact hi)]
      refine ⟨⟨pv0, A, n, c, by rw [e]; rfl, hnc, by rw [e]; exact pvOk0 _, ?_⟩, hb4⟩
      rw [e]
      exact H.out.below hb4
    have HW3 := Lib.hid hw3
    have HW4 := Lib.hid hw4
    have HP4 := Lib.hid hP4
    have HN4 := Lib.hid hN4
    have HN3 := Lib.hid hN3
    have HX3 := Lib.hid hX3
    have Hno := Lib.hid hno
    have HXd := Lib.hid (show Blk w2.drew w.heap.size 30 #[.slice A n c] from hXd)
    have HPd := Lib.hid (show Blk w2.drew (w.heap.size + 1) 39 (pvC pv0).toArray from hPd)
    clear hw3 hw4 hP4 hN4 hN3 hX3 hk4 hb4 hno hXd hPd hNd hBd hKs hh
    go_upto_region 2 with fail
    refine wp_region_held (S := fun _ => True) rfl ?_
    refine wpAnyH_pair (i := 0) (j := 1) (by kernel_rfl) rfl rfl rfl rfl ?_ ?_
    · refine valB (fun _ _ => trivial) ?_
      refine val_run (.agg (pvC pv0).toArray) (run_build_op 39 _ rfl [] rfl _ built39z _) ?_
      simp only [Act.put, List.setIfInBounds_toArray, List.set_cons_succ, List.set_cons_zero]
      refine wpAnyH_pair (i := 1) (j := 2) (by kernel_rfl) rfl rfl rfl rfl ?_ ?_
      · refine valB (fun _ _ => trivial) ?_
        refine val_load_row 30 (.tmp 2) rfl w.heap.size 0 rfl [.slice A n c] d30 (net_row HXd.out) hd30 hrow30 (by kernel_rfl) ?_
        simp only [Act.put, List.setIfInBounds_toArray, List.set_cons_succ, List.set_cons_zero]
        refine wpAnyH_val (i := 2) (by kernel_rfl) (by rfl) (by rfl) ?_
        refine val_store_row 39 (.tmp 4) (.tmp 11) rfl (w.heap.size + 1) (pvC pv0).toArray rfl rfl 39 _ HPd.out (size39 _ rfl) rfl (pv_row_one _) ?_
        refine ⟨trivial, ?_⟩
        simp only [Act.put]
        rw [← HW3.out]
        refine wpAnyH_val (i := 3) (by kernel_rfl) (by rfl) (by rfl) ?_
        refine val_store_row 30 (.tmp 5) (.tmp 12) rfl (w.heap.size + 1 + 1) #[.slice A n c] rfl rfl 30 _ HN3.out (size30 _ rfl) rfl (net_one _ _ _) ?_
        refine ⟨trivial, ?_⟩
        simp only [Act.put]
        rw [← HW4.out]
        refine wpAnyH_val (i := 4) (by kernel_rfl) (by rfl) (by rfl) ?_
        refine valB (fun _ _ => trivial) ?_
        refine val_run (.int .i64 310) rfl ?_
        simp only [Act.put, List.setIfInBounds_toArray, List.set_cons_succ, List.set_cons_zero]
        refine wpAnyH_done (by kernel_rfl) ?_
        go_wp2_with fail
        exact bodyPost_ret (results_rows2 (p := 4) (q := 5) (u := 6) rfl _ _ (w.heap.size + 1) _ _ (0, 0) d39 (w.heap.size + 1 + 1) _ _ (0, 0) d30 rfl HP4.out hd39 hrow39 (size39 _ rfl) rfl HN4.out hd30 hrow30 (size30 _ rfl)) rfl Hno.out
      · refine val_store_row 39 (.tmp 4) (.tmp 11) rfl (w.heap.size + 1) (pvC pv0).toArray rfl rfl 39 _ HPd.out (size39 _ rfl) rfl (pv_row_one _) ?_
        refine ⟨trivial, ?_⟩
        simp only [Act.put]
        rw [← HW3.out]
        refine wpAnyH_val (i := 1) (by kernel_rfl) (by rfl) (by rfl) ?_
        refine valB (fun _ _ => trivial) ?_
        refine val_load_row 30 (.tmp 2) rfl w.heap.size 0 rfl [.slice A n c] d30 (net_row HX3.out) hd30 hrow30 (by kernel_rfl) ?_
        simp only [Act.put, List.setIfInBounds_toArray, List.set_cons_succ, List.set_cons_zero]
        refine wpAnyH_val (i := 3) (by kernel_rfl) (by rfl) (by rfl) ?_
        refine val_store_row 30 (.tmp 5) (.tmp 12) rfl (w.heap.size + 1 + 1) #[.slice A n c] rfl rfl 30 _ HN3.out (size30 _ rfl) rfl (net_one _ _ _) ?_
        refine ⟨trivial, ?_⟩
        simp only [Act.put]
        rw [← HW4.out]
        refine wpAnyH_val (i := 4) (by kernel_rfl) (by rfl) (by rfl) ?_
        refine valB (fun _ _ => trivial) ?_
        refine val_run (.int .i64 310) rfl ?_
        simp only [Act.put, List.setIfInBounds_toArray, List.set_cons_succ, List.set_cons_zero]
        refine wpAnyH_done (by kernel_rfl) ?_
        go_wp2_with fail
        exact bodyPost_ret (results_rows2 (p := 4) (q := 5) (u := 6) rfl _ _ (w.heap.size + 1) _ _ (0, 0) d39 (w.heap.size + 1 + 1) _ _ (0, 0) d30 rfl HP4.out hd39 hrow39 (size39 _ rfl) rfl HN4.out hd30 hrow30 (size30 _ rfl)) rfl Hno.out
    · refine valB (fun _ _ => trivial) ?_
      refine val_load_row 30 (.tmp 2) rfl w.heap.size 0 rfl [.slice A n c] d30 (net_row HXd.out) hd30 hrow30 (by kernel_rfl) ?_
      simp only [Act.put, List.setIfInBounds_toArray, List.set_cons_succ, List.set_cons_zero]
      refine wpAnyH_val (i := 0) (by kernel_rfl) (by rfl) (by rfl) ?_
      refine valB (fun _ _ => trivial) ?_
      refine val_run (.agg (pvC pv0).toArray) (run_build_op 39 _ rfl [] rfl _ built39z _) ?_
      simp only [Act.put, List.setIfInBounds_toArray, List.set_cons_succ, List.set_cons_zero]
      refine wpAnyH_val (i := 2) (by kernel_rfl) (by rfl) (by rfl) ?_
      refine val_store_row 39 (.tmp 4) (.tmp 11) rfl (w.heap.size + 1) (pvC pv0).toArray rfl rfl 39 _ HPd.out (size39 _ rfl) rfl (pv_row_one _) ?_
      refine ⟨trivial, ?_⟩
      simp only [Act.put]
      rw [← HW3.out]
      refine wpAnyH_val (i := 3) (by kernel_rfl) (by rfl) (by rfl) ?_
      refine val_store_row 30 (.tmp 5) (.tmp 12) rfl (w.heap.size + 1 + 1) #[.slice A n c] rfl rfl 30 _ HN3.out (size30 _ rfl) rfl (net_one _ _ _) ?_
      refine ⟨trivial, ?_⟩
      simp only [Act.put]
      rw [← HW4.out]
      refine wpAnyH_val (i := 4) (by kernel_rfl) (by rfl) (by rfl) ?_
      refine valB (fun _ _ => trivial) ?_
      refine val_run (.int .i64 310) rfl ?_
      simp only [Act.put, List.setIfInBounds_toArray, List.set_cons_succ, List.set_cons_zero]
      refine wpAnyH_done (by kernel_rfl) ?_
      go_wp2_with fail
      exact bodyPost_ret (results_rows2 (p := 4) (q := 5) (u := 6) rfl _ _ (w.heap.size + 1) _ _ (0, 0) d39 (w.heap.size + 1 + 1) _ _ (0, 0) d30 rfl HP4.out hd39 hrow39 (size39 _ rfl) rfl HN4.out hd30 hrow30 (size30 _ rfl)) rfl Hno.out
end Go.Proofs.Yteofgkdpknaapaa
