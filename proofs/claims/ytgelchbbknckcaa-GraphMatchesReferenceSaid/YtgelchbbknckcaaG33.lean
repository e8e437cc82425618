/- Package graph's reference: Path and Reach. -/
import Derived.Test.YtgelchbbknckcaaG32
import Derived.Test.YtgelchbbknckcaaG19
namespace Go.Proofs.Ytgelchbbknckcaa
open Go.RowKit Go.Sort

theorem BA.eq {vs : List Int} {ls : List Ln} {lim : Nd} {fr : Int} {outs : List Wm} {bs : List (Option Gr.Wy)} (h : BA vs ls lim fr vs.length 0 outs) (hb : AllR vs ls lim fr bs) : outs.map wyO = bs := by
  obtain ⟨h1, h2, h3⟩ := hb
  rcases h.st with ⟨hn, he⟩ | ⟨s, hs, _, hf⟩
  · rw [he]
    exact (List.eq_replicate_iff.2 ⟨h1, fun b hb => h3 hn b hb⟩).symm
  · apply List.ext_getElem?
    intro v
    cases e : bs[v]? with
    | none =>
      rw [List.getElem?_eq_none_iff] at e
      rw [List.getElem?_eq_none_iff, List.length_map, h.len]; omega
    | some b =>
      obtain ⟨g1, g2⟩ := h2 s hs v b e
      have hl : v < (outs.map wyO).length := by rw [List.length_map, h.len, ← h1]; exact (List.getElem?_eq_some_iff.1 e).1
      rw [List.getElem?_eq_getElem hl]
      rw [Gr.bf_best hf g1 g2 (List.getElem?_eq_getElem hl)]
theorem pathC_no {vs : List Int} {ls : List Ln} {lim : Nd} {fr tv : Int} (h : ¬ (fr ∈ vs ∧ tv ∈ vs)) : (([], 0, 291) : List Nat × Int × Int) = pathC vs ls lim fr tv := by
  unfold pathC; rw [if_neg h]
theorem pathC_yes {vs : List Int} {ls : List Ln} {lim : Nd} {fr tv : Int} {outs : List Wm} {x : Wm} {t : Nat} (hv : Vg vs ls) (h : BA vs ls lim fr vs.length 0 outs) (hf : fr ∈ vs) (ht : vs[t]? = some tv) (hx : outs[t]? = some x) (hp : PathOk vs ls lim fr tv) :
    pathC vs ls lim fr tv = if x.f = true then (x.w.2, (x.w.1 : Int), 0) else ([], 0, 290) := by
  rcases h.st with ⟨hn, _⟩ | ⟨s, hs, _, hbf⟩
  · exact absurd hf hn
  have hc : (outs.map wyO)[t]? = some (wyO x) := by rw [List.getElem?_map, hx]; rfl
  unfold PathOk at hp
  rcases hp with ⟨h1 | h1, _⟩ | ⟨s', t', hs', ht', h2⟩
  · exact absurd hf h1
  · exact absurd (List.mem_of_getElem? ht) h1
  · have e1 := hv.uniq hs hs'
    have e2 := hv.uniq ht ht'
    subst e1
    subst e2
    rcases h2 with ⟨hb, e3, e4, e5⟩ | ⟨w, hb, hl, e3, e4, e5⟩
    · have := Gr.bf_best hbf hb (fun w e => by cases e) hc
      have hxf : x.f = false := by
        cases e : x.f with
        | false => rfl
        | true => simp [wyO, e] at this
      rw [hxf, if_neg (by decide)]
      exact Prod.ext e3 (Prod.ext e4 e5)
    · have := Gr.bf_best hbf hb (fun w' e => by cases e; exact hl) hc
      have hxf : x.f = true := by
        cases e : x.f with
        | true => rfl
        | false => simp [wyO, e] at this
      have hw : x.w = w := by simpa [wyO, hxf] using this
      rw [hxf, if_pos rfl, hw]
      exact Prod.ext e3 (Prod.ext e4 e5)
def spAll (vs : List Int) (ls : List Ln) (lim : Nd) (fr : Int) (n : Nat) : Spec := ⟨fun v W => ∃ (g : Nat) (outs : List Wm), v = .slice (some ⟨g, 0, none⟩) n n ∧ Blk W g 74 (outs.flatMap rwV).toArray ∧ (∀ x ∈ outs, Wt W x) ∧ BA vs ls lim fr vs.length 0 outs, fun _ _ _ ⟨g, outs, h1, h2, h3, h4⟩ hb => ⟨g, outs, h1, h2.below hb h2.lt, fun x hx => (h3 x hx).below hb, h4⟩⟩
def spAt (vs : List Int) (ls : List Ln) (lim : Nd) (fr : Int) (t : Nat) : Spec := ⟨fun v W => ∃ (g : Nat) (outs : List Wm), v = .pointer (some ⟨g, t * 3, none⟩) ∧ Blk W g 74 (outs.flatMap rwV).toArray ∧ (∀ x ∈ outs, Wt W x) ∧ BA vs ls lim fr vs.length 0 outs, fun _ _ _ ⟨g, outs, h1, h2, h3, h4⟩ hb => ⟨g, outs, h1, h2.below hb h2.lt, fun x hx => (h3 x hx).below hb, h4⟩⟩
def spOne3 (vs : List Int) (ls : List Ln) (lim : Nd) (fr : Int) (t : Nat) : Spec := ⟨fun v W => ∃ (x : Wm) (outs : List Wm), v = .agg (rwV x).toArray ∧ outs[t]? = some x ∧ Wt W x ∧ BA vs ls lim fr vs.length 0 outs, fun _ _ _ ⟨x, outs, h1, h2, h3, h4⟩ hb => ⟨x, outs, h1, h2, h3.below hb, h4⟩⟩
theorem bu44z (e : Int) : Try.prog.built 44 [(2, .int .i64 e)] = some (rsV none 0 0 0 e).toArray := by kernel_rfl
theorem bu44b (A : Option Addr) (n c : Nat) (k : Int) : Try.prog.built 44 [(0, .slice A n c), (1, .int .i64 k)] = some (rsV A n c k 0).toArray := by kernel_rfl
theorem trd_nil (W : World) : TRd W 3 1 none 0 [] := ⟨Rd.nil _ _ _, fun h => absurd h (Nat.not_lt_zero _)⟩

set_option maxRecDepth 100000 in
set_option maxHeartbeats 2000000 in
theorem RPath_any (A : Option Addr) (n c : Nat) (B : Option Addr) (m d : Nat) (vs : List Int) (ls : List Ln) (fr tv : Int) (lim : Nd) (w : World) (hr : Rd w 1 A n (vs.map intV)) (hl : Rd w 8 B m (ls.flatMap lnV)) (hv : Vg vs ls) :
    Calls Try.prog 19 #[.agg (grV A n c B m d).toArray, .agg (asV fr tv lim).toArray] w fun e w' => (∃ (A' : Option Addr) (c' : Nat) (L : List Nat) (k x : Int), e = .returned (.agg (rsV A' L.length c' k x).toArray) ∧ TRd w' 3 1 A' L.length ((castL L).map intV) ∧ (PathOk vs ls lim fr tv → (L, k, x) = pathC vs ls lim fr tv)) ∧ Below w.heap.size w w' := by
  obtain ⟨i44, hi44, hz44, hs44, hy44⟩ := info_parts info44
  obtain ⟨i74, hi74, hz74, hs74, hy74⟩ := info_parts info74
  obtain ⟨d74, hd74, hrow74⟩ := und74
  obtain ⟨d44, hd44, hrow44⟩ := und44
  obtain ⟨d33, hd33, hrow33⟩ := und33
  obtain ⟨d28, hd28, hrow28⟩ := und28
  have hvl := hr.len1
  have Hvl := Lib.hid hvl
  go_enter Try.func19, Try.ntmps19
  go_upto_region 1 with (refine wpList_alloc0 rfl 44 rfl (rsV none 0 0 0 0).toArray _ i44 hi44 hz44 rfl ?_; simp only [Act.put, List.setIfInBounds_toArray, List.set_cons_succ, List.set_cons_zero, World.size_alloc])
  obtain ⟨w1, hw1⟩ : ∃ v, v = ((w.alloc (.cells (grV A n c B m d).toArray 33)).alloc (.cells (asV fr tv lim).toArray 40)).alloc (.cells (rsV none 0 0 0 0).toArray 44) := ⟨_, rfl⟩
  have hB : Below w.heap.size w w1 := by rw [hw1]; exact (((Below.refl _ _).alloc (Nat.le_refl _) _).alloc (by simp) _).alloc (by simp; omega) _
  have hC : Blk w1 w.heap.size 33 (grV A n c B m d).toArray := by rw [hw1]; exact ((Blk.new _ _ _).alloc _).alloc _
  have hD : Blk w1 (w.heap.size + 1) 40 (asV fr tv lim).toArray := by
    have := Blk.new (w.alloc (.cells (grV A n c B m d).toArray 33)) 40 (asV fr tv lim).toArray
    rw [World.size_alloc] at this
    rw [hw1]; exact this.alloc _
  have hE : Blk w1 (w.heap.size + 1 + 1) 44 (rsV none 0 0 0 0).toArray := by
    have := Blk.new ((w.alloc (.cells (grV A n c B m d).toArray 33)).alloc (.cells (asV fr tv lim).toArray 40)) 44 (rsV none 0 0 0 0).toArray
    rw [World.size_alloc, World.size_alloc] at this
    rw [hw1]; exact this
  rw [← hw1]
  clear hw1
  have c0 : w1.cell? ⟨w.heap.size + 1, 0, none⟩ = some (.int .i64 fr) := by rw [hD.cell]; rfl
  have HC := Lib.hid hC
  have HD := Lib.hid hD
  have HE := Lib.hid hE
  have HB := Lib.hid hB
  have hr := hr.below hB
  have hl := hl.below hB
  have Hr := Lib.hid hr
  have Hl := Lib.hid hl
  have Hv := Lib.hid hv
  clear hC hD hE hB hr hl hv hvl
  go_upto_region 3 with (refine wpList_load_mid_g (by first | rfl | simp [Region.wanted, yielded]) 33 (.tmp 2) rfl w.heap.size 0 rfl (grV A n c B m d) d33 (Blk.range HC.out) hd33 hrow33 (by rw [grV_len]; kernel_rfl) ?_)
  refine (Find_any A n c B m d vs fr w1 Hr.out).mono ?_
  rintro e w2 ⟨rfl, hb2⟩
  replace HC := Lib.hid (HC.out.below hb2 HC.out.lt)
  replace HD := Lib.hid (HD.out.below hb2 HD.out.lt)
  replace HE := Lib.hid (HE.out.below hb2 HE.out.lt)
  replace Hr := Lib.hid (Hr.out.below hb2)
  replace Hl := Lib.hid (Hl.out.below hb2)
  replace HB := Lib.hid (HB.out.trans (hb2.mono HB.out.size))
  clear hb2 c0
  have c1 : w2.cell? ⟨w.heap.size + 1, 1, none⟩ = some (.int .i64 tv) := by rw [HD.out.cell]; rfl
  by_cases hf : fr ∈ vs
  rotate_left
  · have q1 : decide (idxI vs fr < 0) = true := decide_eq_true ((idxI_neg vs fr).2 hf)
    have Hend := Lib.hid (pathC_no (ls := ls) (lim := lim) (tv := tv) (fun h : fr ∈ vs ∧ tv ∈ vs => hf h.1))
    have HBx := Lib.hid (Below.setRow HB.out (show w.heap.size ≤ w.heap.size + 1 + 1 by omega) (rsV none 0 0 0 291).toArray)
    clear hf
    go_wp2_with (first | (refine wpList_buildN rfl 44 _ rfl [(2, .int .i64 291)] rfl _ (bu44z _) ?_) | (refine wpList_store_row rfl 44 (.tmp 4) (.tmp 18) rfl (w.heap.size + 1 + 1) (rsV none 0 0 0 291).toArray rfl rfl 44 (rsV none 0 0 0 0).toArray HE.out (size44 _ rfl) rfl (rs_one _ _ _ _ _) ?_))
    refine bodyPost_ret (results_cell_row rfl _ _ (w.heap.size + 1 + 1) 44 (rsV none 0 0 0 291).toArray (0, 0) d44 rfl (setRow_heap _ _ _ _ _ _ HE.out) hd44 (by cases d44 <;> first | rfl | exact hrow44) (size44 _ rfl)) rfl ⟨⟨none, 0, [], 0, 291, rfl, trd_nil _, fun _ => Hend.out⟩, HBx.out⟩
  have q1 : decide (idxI vs fr < 0) = false := decide_eq_false (fun h => (idxI_neg vs fr).1 h hf)
  have Hf := Lib.hid hf
  clear hf
  go_upto_region 3 with (first | (refine wpList_load_mid_g (by first | rfl | simp [Region.wanted, yielded]) 33 (.tmp 2) rfl w.heap.size 0 rfl (grV A n c B m d) d33 (Blk.range HC.out) hd33 hrow33 (by rw [grV_len]; kernel_rfl) ?_))
  refine (Find_any A n c B m d vs tv w2 Hr.out).mono ?_
  rintro e w3 ⟨rfl, hb3⟩
  replace HC := Lib.hid (HC.out.below hb3 HC.out.lt)
  replace HD := Lib.hid (HD.out.below hb3 HD.out.lt)
  replace HE := Lib.hid (HE.out.below hb3 HE.out.lt)
  replace Hr := Lib.hid (Hr.out.below hb3)
  replace Hl := Lib.hid (Hl.out.below hb3)
  replace HB := Lib.hid (HB.out.trans (hb3.mono HB.out.size))
  clear hb3 c1 q1
  by_cases hf : tv ∈ vs
  rotate_left
  · have q1 : decide (idxI vs tv < 0) = true := decide_eq_true ((idxI_neg vs tv).2 hf)
    have Hend := Lib.hid (pathC_no (ls := ls) (lim := lim) (fr := fr) (fun h : fr ∈ vs ∧ tv ∈ vs => hf h.2))
    have HBx := Lib.hid (Below.setRow HB.out (show w.heap.size ≤ w.heap.size + 1 + 1 by omega) (rsV none 0 0 0 291).toArray)
    clear hf
    go_wp2_with (first | (refine wpList_buildN rfl 44 _ rfl [(2, .int .i64 291)] rfl _ (bu44z _) ?_) | (refine wpList_store_row rfl 44 (.tmp 4) (.tmp 18) rfl (w.heap.size + 1 + 1) (rsV none 0 0 0 291).toArray rfl rfl 44 (rsV none 0 0 0 0).toArray HE.out (size44 _ rfl) rfl (rs_one _ _ _ _ _) ?_))
    refine bodyPost_ret (results_cell_row rfl _ _ (w.heap.size + 1 + 1) 44 (rsV none 0 0 0 291).toArray (0, 0) d44 rfl (setRow_heap _ _ _ _ _ _ HE.out) hd44 (by cases d44 <;> first | rfl | exact hrow44) (size44 _ rfl)) rfl ⟨⟨none, 0, [], 0, 291, rfl, trd_nil _, fun _ => Hend.out⟩, HBx.out⟩
  have q1 : decide (idxI vs tv < 0) = false := decide_eq_false (fun h => (idxI_neg vs tv).1 h hf)
  obtain ⟨t, ht, htl, htv⟩ := idx_lt hf
  have htn : t < n := by rw [Hvl.out] at htl; exact htl
  have Ht := Lib.hid ht
  have Htv := Lib.hid htv
  clear hf ht htl htv
  go_upto_region 3 with fail
  clear q1
  have c0a : w3.cell? ⟨w.heap.size + 1, 0, none⟩ = some (.int .i64 fr) := by rw [HD.out.cell]; rfl
  have c1a : w3.cell? ⟨w.heap.size + 1, 1, none⟩ = some (.int .i64 tv) := by rw [HD.out.cell]; rfl
  have hrn : ∀ W, Below w3.heap.size w3 W → W.rangeAt (w.heap.size + 1) 2 (ndV lim) := fun W h j v hv => by
    rw [(HD.out.below h HD.out.lt).cell, List.getElem?_toArray]
    unfold asV
    rw [List.getElem?_append_right (by simp)]
    simpa using hv
  have Hrn := Lib.hid hrn
  clear hrn
  go_cut [5] from 19 to 30 (fun t5 wx => ∃ (B5 : Nat) (x : Wm) (outs : List Wm), t5 = .pointer (some ⟨B5, 0, none⟩) ∧ outs[t]? = some x ∧ BA vs ls lim fr vs.length 0 outs ∧ Wt wx x ∧ Blk wx B5 74 (rwV x).toArray ∧ Below w3.heap.size w3 wx)
  case first =>
    refine wp_region_flow_tail 13 [19, 20, 21, 22, 23, 24, 25, 26, 27, 28, 29, 30, 5] [(Spec.is (.agg (grV A n c B m d).toArray), false), (Spec.is (.pointer (some ⟨w.heap.size + 1, 0, none⟩)), false), (Spec.is (.int .i64 fr), false), (Spec.is (.pointer (some ⟨w.heap.size + 1, 2, none⟩)), false), (Spec.is (.agg (ndV lim).toArray), false), (spAll vs ls lim fr n, false), (Spec.is (.agg (grV A n c B m d).toArray), false), (Spec.is (.pointer (some ⟨w.heap.size + 1, 1, none⟩)), false), (Spec.is (.int .i64 tv), false), (Spec.is (.int .i64 (t : Int)), false), (spAt vs ls lim fr t, false), (spOne3 vs ls lim fr t, false), (spVar 74 (rwV wm0).toArray, true)] 40 (by kernel_rfl) (List.take_append_drop _ _) rfl (by kernel_rfl) (by kernel_rfl) (by kernel_rfl) (by decide) (by kernel_rfl) (by kernel_rfl) (fun _ _ d _ _ h => by cases d <;> exact h) rfl (by decide) rfl (by decide) (by kernel_rfl) ?_ ?_
    · refine ⟨?_, ?_, ?_, ?_, ?_, ?_, ?_, ?_, ?_, ?_, ?_, ?_, ?_, trivial⟩
      · intro a W hE hb hs
        have h2 : a.eval (.tmp 2) = .pointer (some ⟨w.heap.size, 0, none⟩) := hb 2 (by decide)
        refine flow0 rfl ?_
        exact val_load_row 33 _ rfl w.heap.size 0 h2 (grV A n c B m d) d33 (Blk.range (HC.out.below (ext_below hE) HC.out.lt)) hd33 hrow33 (by rw [grV_len]; kernel_rfl) ⟨rfl, trivial⟩
      · intro a W hE hb hs
        have h3 : a.eval (.tmp 3) = .pointer (some ⟨w.heap.size + 1, 0, none⟩) := hb 3 (by decide)
        refine flow0 rfl ?_
        intro K hK
        unfold Oper.wp execOp
        simp only [h3]
        simp [go_sem]
        exact hK _ _ ⟨Below.refl _ _, rfl, trivial⟩
      · intro a W hE hb hs
        have h20 : a.eval (.tmp 20) = .pointer (some ⟨w.heap.size + 1, 0, none⟩) := hs 1 (by decide)
        refine flow0 rfl ?_
        have c0 : W.cell? ⟨w.heap.size + 1, 0, none⟩ = some (.int .i64 fr) := ((ext_below hE).cell (World.block_lt_of_cell? _ _ c0a)).trans c0a
        intro K hK
        unfold Oper.wp execOp
        simp only [h20]
        simp [go_sem, c0]
        exact hK _ _ ⟨Below.refl _ _, rfl, trivial⟩
      · intro a W hE hb hs
        have h3 : a.eval (.tmp 3) = .pointer (some ⟨w.heap.size + 1, 0, none⟩) := hb 3 (by decide)
        refine flow0 rfl ?_
        intro K hK
        unfold Oper.wp execOp
        simp only [h3]
        simp [go_sem]
        exact hK _ _ ⟨Below.refl _ _, rfl, trivial⟩
      · intro a W hE hb hs
        have h22 : a.eval (.tmp 22) = .pointer (some ⟨w.heap.size + 1, 2, none⟩) := hs 3 (by decide)
        refine flow0 rfl ?_
        exact val_load_row 28 _ rfl (w.heap.size + 1) 2 h22 (ndV lim) d28 (Hrn.out W (ext_below hE)) hd28 hrow28 (by rw [ndV_len]; kernel_rfl) ⟨rfl, trivial⟩
      · intro a W hE hb hs
        have h19 : a.eval (.tmp 19) = .agg (grV A n c B m d).toArray := hs 0 (by decide)
        have h21 : a.eval (.tmp 21) = .int .i64 fr := hs 2 (by decide)
        have h23 : a.eval (.tmp 23) = .agg (ndV lim).toArray := hs 4 (by decide)
        refine flow0 rfl ?_
        exact val_call 29 _ _ rfl (by kernel_rfl) [.agg (grV A n c B m d).toArray, .int .i64 fr, .agg (ndV lim).toArray] (by show [a.eval (.tmp 19), a.eval (.tmp 21), a.eval (.tmp 23)] = _; rw [h19, h21, h23]) ((All_any A n c B m d vs ls fr lim W (Hr.out.below (ext_below hE)) (Hl.out.below (ext_below hE)) Hv.out).mono (by rintro e W' ⟨⟨g, outs, rfl, _, h1, h2, h3⟩, hb⟩; exact ⟨_, rfl, hb, ⟨g, outs, rfl, h1, h2, by rw [Hvl.out]; exact h3⟩, trivial⟩))
      · intro a W hE hb hs
        have h2 : a.eval (.tmp 2) = .pointer (some ⟨w.heap.size, 0, none⟩) := hb 2 (by decide)
        refine flow0 rfl ?_
        exact val_load_row 33 _ rfl w.heap.size 0 h2 (grV A n c B m d) d33 (Blk.range (HC.out.below (ext_below hE) HC.out.lt)) hd33 hrow33 (by rw [grV_len]; kernel_rfl) ⟨rfl, trivial⟩
      · intro a W hE hb hs
        have h3 : a.eval (.tmp 3) = .pointer (some ⟨w.heap.size + 1, 0, none⟩) := hb 3 (by decide)
        refine flow0 rfl ?_
        intro K hK
        unfold Oper.wp execOp
        simp only [h3]
        simp [go_sem]
        exact hK _ _ ⟨Below.refl _ _, rfl, trivial⟩
      · intro a W hE hb hs
        have h26 : a.eval (.tmp 26) = .pointer (some ⟨w.heap.size + 1, 1, none⟩) := hs 7 (by decide)
        refine flow0 rfl ?_
        have c0 : W.cell? ⟨w.heap.size + 1, 1, none⟩ = some (.int .i64 tv) := ((ext_below hE).cell (World.block_lt_of_cell? _ _ c1a)).trans c1a
        intro K hK
        unfold Oper.wp execOp
        simp only [h26]
        simp [go_sem, c0]
        exact hK _ _ ⟨Below.refl _ _, rfl, trivial⟩
      · intro a W hE hb hs
        have h25 : a.eval (.tmp 25) = .agg (grV A n c B m d).toArray := hs 6 (by decide)
        have h27 : a.eval (.tmp 27) = .int .i64 tv := hs 8 (by decide)
        refine flow0 rfl ?_
        exact val_call 25 _ _ rfl (by kernel_rfl) [.agg (grV A n c B m d).toArray, .int .i64 tv] (by show [a.eval (.tmp 25), a.eval (.tmp 27)] = _; rw [h25, h27]) ((Find_any A n c B m d vs tv W (Hr.out.below (ext_below hE))).mono (by rintro e W' ⟨rfl, hb⟩; exact ⟨_, rfl, hb, (show Value.int .i64 (idxI vs tv) = Value.int .i64 (t : Int) from by rw [Ht.out]), trivial⟩))
      · intro a W hE hb hs
        have h24 : ∃ (g : Nat) (outs : List Wm), (a.eval (.tmp 24)) = .slice (some ⟨g, 0, none⟩) n n ∧ Blk W g 74 (outs.flatMap rwV).toArray ∧ (∀ x ∈ outs, Wt W x) ∧ BA vs ls lim fr vs.length 0 outs := hs 5 (by decide)
        have h28 : a.eval (.tmp 28) = .int .i64 (t : Int) := hs 9 (by decide)
        refine flow0 rfl ?_
        obtain ⟨g, outs, hv, h1, h2, h3⟩ := h24
        intro K hK
        unfold Oper.wp execOp
        simp only [hv, h28]
        simp [go_sem, htn]
        exact hK _ _ ⟨Below.refl _ _, ⟨g, outs, rfl, h1, h2, h3⟩, trivial⟩
      · intro a W hE hb hs
        have h29 : ∃ (g : Nat) (outs : List Wm), (a.eval (.tmp 29)) = .pointer (some ⟨g, t * 3, none⟩) ∧ Blk W g 74 (outs.flatMap rwV).toArray ∧ (∀ x ∈ outs, Wt W x) ∧ BA vs ls lim fr vs.length 0 outs := hs 10 (by decide)
        refine flow0 rfl ?_
        obtain ⟨g, outs, hv, h1, h2, h3⟩ := h29
        obtain ⟨x, hx⟩ : ∃ x, outs[t]? = some x := ⟨_, List.getElem?_eq_getElem (by rw [h3.len, Hvl.out]; exact htn)⟩
        exact val_load_row 74 _ rfl g (t * 3) hv (rwV x) d74 (Blk.at3 h1 hx) hd74 hrow74 (by rw [rwV_len]; kernel_rfl) ⟨⟨x, outs, rfl, hx, h2 x (List.mem_of_getElem? hx), h3⟩, trivial⟩
      · intro a W hE hb hs
        refine flow0 rfl ?_
        exact val_alloc _ rfl (rwV wm0).toArray _ i74 hi74 hz74 rfl ⟨⟨_, rfl, Blk.new _ _ _⟩, _, rfl, Nat.le_refl _, by rw [World.size_alloc]; omega⟩
    · intro f W hbW hT hp hd
      obtain ⟨x, outs, e30, hx, hwx, hba⟩ : ∃ (x : Wm) (outs : List Wm), f 30 = .agg (rwV x).toArray ∧ outs[t]? = some x ∧ Wt W x ∧ BA vs ls lim fr vs.length 0 outs := hT 11 (by decide)
      have hwx := hwx.1
      have hwc : x.n ≤ x.c := by obtain ⟨x2, outs2, e2, _, hw2, _⟩ : ∃ (x : Wm) (outs : List Wm), f 30 = .agg (rwV x).toArray ∧ outs[t]? = some x ∧ Wt W x ∧ BA vs ls lim fr vs.length 0 outs := hT 11 (by decide); rw [e30] at e2; injection e2 with e2; have := congrArg (fun a : Array Value => a.toList) e2; simp only [rwV, List.cons.injEq, Value.slice.injEq] at this; have h2 := hw2.2; omega
      obtain ⟨B5, eB5, hB5⟩ : ∃ B, f 5 = .pointer (some ⟨B, 0, none⟩) ∧ Blk W B 74 (rwV wm0).toArray := hT 12 (by decide)
      have lB5 : w3.heap.size ≤ B5 := by
        obtain ⟨b', h1, h2, _⟩ := hp 12 (by decide) rfl
        have h1' : f 5 = .pointer (some ⟨b', 0, none⟩) := h1
        rw [eB5] at h1'
        injection h1' with h; injection h with h; injection h with h
        omega
      have hbZ := hbW
      have HK0 := (KeptIn.refl (fun k => k ≠ B5) (W)).setRow (g := B5) (fun h => h rfl) (rwV x).toArray
      have sB5 := hB5
      replace hwx := hwx.kept hB5 (by decide) HK0
      replace hB5 : Blk ((W).setRow B5 (rwV x).toArray) B5 74 (rwV x).toArray := setRow_heap _ _ _ _ _ _ sB5
      replace hbZ := Below.setRow hbZ lB5 (rwV x).toArray
      simp only [List.drop_succ_cons, List.drop_zero]
      simp only [putV, List.foldl_cons, List.foldl_nil, Act.put, List.setIfInBounds_toArray, List.set_cons_succ, List.set_cons_zero]
      rw [eB5, e30]
      refine wpList_store_row rfl 74 (.tmp 5) (.tmp 30) rfl B5 (rwV x).toArray rfl rfl 74 (rwV wm0).toArray sB5 (size74 _ rfl) rfl (rw_one _) ?_
      refine wpList_nil ?_
      have HX := Lib.hid (And.intro hx (And.intro hba (And.intro (show Wt _ x from ⟨hwx, hwc⟩) (And.intro hB5 hbZ))))
      clear hT hp hd HK0 sB5 hB5 hbZ hbW lB5 hx hba hwx hwc
      go_wp2_with fail
      go_meet
      exact ⟨B5, x, outs, rfl, HX.out⟩
  case' rest => skip
  obtain ⟨B5, x, outs, rfl, hx, hba, hwx, hB5, hb4⟩ := hcut
  obtain ⟨w4, h_⟩ : ∃ v, v = wc := ⟨_, rfl⟩
  subst h_
  replace HE := Lib.hid (HE.out.below hb4 HE.out.lt)
  replace HB := Lib.hid (HB.out.trans (hb4.mono HB.out.size))
  have Hpc := Lib.hid (fun hp => pathC_yes Hv.out hba Hf.out Htv.out hx hp)
  have Hwx := Lib.hid hwx
  have x0 : w4.cell? ⟨B5, 0, none⟩ = some (.slice x.A x.n x.c) := by rw [hB5.cell]; rfl
  have x1 : w4.cell? ⟨B5, 1, none⟩ = some (.int .i64 (x.w.1 : Int)) := by rw [hB5.cell]; rfl
  have x2 : w4.cell? ⟨B5, 2, none⟩ = some (.bool x.f) := by rw [hB5.cell]; rfl
  clear hb4 HC HD Hr Hl c0a c1a Hrn hba hwx hx hB5
  cases hxf : x.f with
  | false =>
    rw [hxf] at x2 Hpc
    have HBx := Lib.hid (Below.setRow HB.out (show w.heap.size ≤ w.heap.size + 1 + 1 by omega) (rsV none 0 0 0 290).toArray)
    clear hxf
    go_wp2_with (first | (refine wpList_buildN rfl 44 _ rfl [(2, .int .i64 290)] rfl _ (bu44z _) ?_) | (refine wpList_store_row rfl 44 (.tmp 4) (.tmp 34) rfl (w.heap.size + 1 + 1) (rsV none 0 0 0 290).toArray rfl rfl 44 (rsV none 0 0 0 0).toArray HE.out (size44 _ rfl) rfl (rs_one _ _ _ _ _) ?_))
    refine bodyPost_ret (results_cell_row rfl _ _ (w.heap.size + 1 + 1) 44 (rsV none 0 0 0 290).toArray (0, 0) d44 rfl (setRow_heap _ _ _ _ _ _ HE.out) hd44 (by cases d44 <;> first | rfl | exact hrow44) (size44 _ rfl)) rfl ⟨⟨none, 0, [], 0, 290, rfl, trd_nil _, fun h => (Hpc.out h).symm⟩, HBx.out⟩
  | true =>
    rw [hxf] at x2 Hpc
    have hxn : x.w.2.length = x.n := by have := Hwx.out.rd.len1; simpa [castL] using this
    have Hxn := Lib.hid hxn
    have HK := (KeptIn.refl (fun k => k ≠ w.heap.size + 1 + 1) w4).setRow (g := w.heap.size + 1 + 1) (fun h => h rfl) (rsV x.A x.n x.c (x.w.1 : Int) 0).toArray
    have Hwy := Lib.hid (Hwx.out.1.kept HE.out (by decide) HK)
    have HBx := Lib.hid (Below.setRow HB.out (show w.heap.size ≤ w.heap.size + 1 + 1 by omega) (rsV x.A x.n x.c (x.w.1 : Int) 0).toArray)
    clear hxf hxn HK
    go_wp2_with (first | (refine wpList_buildN rfl 44 _ rfl [(0, .slice x.A x.n x.c), (1, .int .i64 (x.w.1 : Int))] rfl _ (bu44b _ _ _ _) ?_) | (refine wpList_store_row rfl 44 (.tmp 4) (.tmp 39) rfl (w.heap.size + 1 + 1) (rsV x.A x.n x.c (x.w.1 : Int) 0).toArray rfl rfl 44 (rsV none 0 0 0 0).toArray HE.out (size44 _ rfl) rfl (rs_one _ _ _ _ _) ?_))
    refine bodyPost_ret (results_cell_row rfl _ _ (w.heap.size + 1 + 1) 44 (rsV x.A x.n x.c (x.w.1 : Int) 0).toArray (0, 0) d44 rfl (setRow_heap _ _ _ _ _ _ HE.out) hd44 (by cases d44 <;> first | rfl | exact hrow44) (size44 _ rfl)) rfl ⟨⟨x.A, x.c, x.w.2, (x.w.1 : Int), 0, by rw [Hxn.out], by rw [Hxn.out]; exact Hwy.out, fun h => (Hpc.out h).symm⟩, HBx.out⟩

set_option maxRecDepth 100000 in
set_option maxHeartbeats 2000000 in
theorem RReach_any (A : Option Addr) (n c : Nat) (B : Option Addr) (m d : Nat) (vs : List Int) (ls : List Ln) (fr : Int) (lim : Nd) (w : World) (hr : Rd w 1 A n (vs.map intV)) (hl : Rd w 8 B m (ls.flatMap lnV)) (hv : Vg vs ls) :
    Calls Try.prog 16 #[.agg (grV A n c B m d).toArray, .int .i64 fr, .agg (ndV lim).toArray] w fun e w' => (∃ (A' : Option Addr) (c' : Nat) (xs : List Int), e = .returned (.slice A' xs.length c') ∧ Rd w' 1 A' xs.length (xs.map intV) ∧ (ReachOk vs ls lim fr → xs = reachC vs ls lim fr)) ∧ Below w.heap.size w w' := by
  obtain ⟨d33, hd33, hrow33⟩ := und33
  obtain ⟨d28, hd28, hrow28⟩ := und28
  obtain ⟨i3, hi3, hz3, hs3, hy3⟩ := info_parts info3
  have hvl := hr.len1
  have hn16 : n ≤ 16 := by have := hv.n; omega
  have Hr := Lib.hid hr
  have Hl := Lib.hid hl
  have Hv := Lib.hid hv
  have Hvl := Lib.hid hvl
  clear hr hl hv hvl
  have hbs := nil30
  go_enter Try.func16, Try.ntmps16
  go_upto_region 1 with fail
  obtain ⟨w1, hw1⟩ : ∃ v, v = (w.alloc (.cells (grV A n c B m d).toArray 33)).alloc (.cells (ndV lim).toArray 28) := ⟨_, rfl⟩
  have hB : Below w.heap.size w w1 := by rw [hw1]; exact ((Below.refl _ _).alloc (Nat.le_refl _) _).alloc (by simp) _
  have hC : Blk w1 w.heap.size 33 (grV A n c B m d).toArray := by rw [hw1]; exact (Blk.new _ _ _).alloc _
  have hD : Blk w1 (w.heap.size + 1) 28 (ndV lim).toArray := by
    have := Blk.new (w.alloc (.cells (grV A n c B m d).toArray 33)) 28 (ndV lim).toArray
    rw [World.size_alloc] at this
    rw [hw1]; exact this
  rw [← hw1]
  clear hw1
  have hba_ : Below w1.heap.size w1 (w1.alloc (.cells #[] 3)) := (Below.refl _ _).alloc (Nat.le_refl _) _
  have HC := Lib.hid (hC.below hba_ hC.lt)
  have HD := Lib.hid (hD.below hba_ hD.lt)
  have HB := Lib.hid (hB.trans (hba_.mono hB.size))
  clear hC hD hB hba_
  have Hrg := Lib.hid (Blk.range HC.out)
  have Hrd := Lib.hid (Blk.range HD.out)
  have Hw := Lib.hid (All_any A n c B m d vs ls fr lim _ (Hr.out.below HB.out) (Hl.out.below HB.out) Hv.out)
  go_upto_region 3 with (first | (refine wpList_load_mid rfl 33 (.tmp 3) rfl w.heap.size 0 rfl (grV A n c B m d) d33 Hrg.out hd33 hrow33 (by rw [grV_len]; kernel_rfl) ?_) | (refine wpList_load_mid rfl 28 (.tmp 5) rfl (w.heap.size + 1) 0 rfl (ndV lim) d28 Hrd.out hd28 hrow28 (by rw [ndV_len]; kernel_rfl) ?_))
  refine Hw.out.mono ?_
  rintro e w2 ⟨⟨g, outs, rfl, hg, hO, hwt, hba⟩, hb2⟩
  have HO := Lib.hid hO
  have Hba := Lib.hid hba
  have Hol := Lib.hid (show outs.length = n by rw [hba.len, Hvl.out])
  have HC2 := Lib.hid (HC.out.below hb2 HC.out.lt)
  have HB2 := Lib.hid (HB.out.trans (hb2.mono HB.out.size))
  clear hO hwt hba hb2 hg Hw Hrg Hrd HC HD HB hbs
  go_wp2_with fail
  go_loopw [7, 9] (fun v7 v9 wr => ∃ k : Nat, v9 = .int .i64 (k : Int) ∧ k ≤ n ∧ App wr w2.heap.size 3 v7 (reachL (vs.take k) ((outs.map wyO).take k)).length ((reachL (vs.take k) ((outs.map wyO).take k)).map intV) ∧ Below w2.heap.size w2 wr) (fun _ v9 _ => n - (intOf v9).toNat)
  case atStart => exact ⟨0, rfl, by omega, .inl ⟨by simp [reachL], by simp [reachL], _, rfl⟩, Below.refl _ _⟩
  case round =>
    obtain ⟨k, rfl, hk, happ, hBr⟩ := hrel
    have Happ := Lib.hid happ
    have HBr := Lib.hid hBr
    have hszr := hBr.size
    clear happ hBr
    by_cases hlt : k < n
    · have hO := HO.out.below HBr.out HO.out.lt
      obtain ⟨x, hx⟩ : ∃ x, outs[k]? = some x := ⟨_, List.getElem?_eq_getElem (by rw [Hol.out]; exact hlt)⟩
      obtain ⟨b, off, v, rfl, hvk, cv⟩ := (Hr.out.below (HB2.out.trans (HBr.out.mono HB2.out.size))).at_ hlt
      have Htk := Lib.hid (reachL_take hvk (show (outs.map wyO)[k]? = some (wyO x) by rw [List.getElem?_map, hx]; rfl))
      have hlen : (reachL (vs.take k) ((outs.map wyO).take k)).length ≤ 16 := by have := reachL_len (vs.take k) ((outs.map wyO).take k); rw [List.length_take] at this; omega
      have d0 : decide ((k : Int) < (n : Int)) = true := decide_eq_true (by omega)
      have c2 : wr.cell? ⟨g, k * 3 + 2, none⟩ = some (.bool x.f) := Blk.at3 hO hx 2 _ rfl
      have g0 : wr.cell? ⟨w.heap.size, 0, none⟩ = some (.slice (some ⟨b, off, none⟩) n c) := by rw [(HC2.out.below HBr.out HC2.out.lt).cell]; rfl
      have v0 : wr.cell? ⟨b, off + k, none⟩ = some (.int .i64 v) := cv
      clear hO hx hvk cv
      cases hxf : x.f with
      | false =>
        have hwy : wyO x = none := by simp [wyO, hxf]
        rw [hwy] at Htk
        rw [hxf] at c2
        clear hxf hwy
        go_wp2_with fail
        exact ⟨⟨k + 1, by go_num, by omega, by rw [Htk.out]; simpa using Happ.out, HBr.out⟩, by simp [intOf]; omega⟩
      | true =>
        have hwy : wyO x = some x.w := by simp [wyO, hxf]
        rw [hwy] at Htk
        rw [hxf] at c2
        clear hxf hwy
        go_wp2_with (at_builtin; go_loud (refine wpList_app rfl (.tmp 26) (.tmp 32) 30 rfl 3 i3 (.int .i64 0) 8 Try.underlying30 hi3 hz3 hs3 hy3 rfl w2.heap.size (by simp; omega) _ _ _ rfl (Happ.out.litE _) (some ⟨wr.heap.size, 0, none⟩) 1 1 [intV v] rfl (lit_rdE _ _ _) (by simp [intV, Value.oneCell']) (by unfold maxLen; omega) (by omega) ?_; intro v1 w6 happ6 hb6))
        have hB6 := (HBr.out.alloc hszr (.cells #[intV v] 3)).trans hb6
        exact ⟨⟨k + 1, by go_num, by omega, by rw [Htk.out]; simpa using happ6, hB6⟩, by simp [intOf]; omega⟩
    · have he : k = n := by omega
      have h1 : vs.take k = vs := List.take_of_length_le (by rw [Hvl.out]; omega)
      have h2 : (outs.map wyO).take k = outs.map wyO := List.take_of_length_le (by rw [List.length_map, Hol.out]; omega)
      rw [h1, h2] at Happ
      obtain ⟨A', c', rfl, hc', hR⟩ := Happ.out.rd
      have HR := Lib.hid hR
      have HBx := Lib.hid (HB2.out.trans (HBr.out.mono HB2.out.size))
      have hfin : ReachOk vs ls lim fr → reachL vs (outs.map wyO) = reachC vs ls lim fr := fun ⟨bs, hb1, hb2⟩ => by
        have h := Hba.out
        rw [← Hvl.out] at h
        rw [hb2, h.eq hb1]
      have Hfin := Lib.hid hfin
      have d0 : decide ((k : Int) < (n : Int)) = false := decide_eq_false (by omega)
      have d1 : decide (k < n) = false := decide_eq_false hlt
      clear h1 h2 hR hlt he hk hfin
      go_wp2_with fail
      go_ret
      exact ⟨⟨A', c', _, rfl, HR.out, Hfin.out⟩, HBx.out⟩
end Go.Proofs.Ytgelchbbknckcaa
