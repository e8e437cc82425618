/- The law GraphWays. -/
import Derived.Test.YtgelchbbknckcaaG25
namespace Go.Proofs.Ytgelchbbknckcaa
open Go.RowKit Go.Sort

theorem ways_link {vs : List Int} {ls : List Ln} {lim : Nd} {a b : Int} {j : Nat} {l : Ln} (hv : Vg vs ls) (hp : PathOk vs ls lim a b) (hl : ls[j]? = some l) (hf : l.f = a) (ht : l.t = b) (hfit : fitsB l.n lim = true) : (pathC vs ls lim a b).2.2 = 0 ∧ (pathC vs ls lim a b).2.1 ≤ l.c := by
  obtain ⟨s', _, _, hs'⟩ := idx_lt (hv.ln j l hl).1
  obtain ⟨t', _, _, ht'⟩ := idx_lt (hv.ln j l hl).2.1
  have hlk := hv.at_ lim hl hs' ht'
  rw [hfit] at hlk
  have hw : Gr.Walk (lksN vs lim ls) s' t' _ := .snoc .nil hlk
  have hc := (hv.ln j l hl).2.2.2.1
  rw [hf] at hs'
  rw [ht] at ht'
  rcases hp with ⟨h, _⟩ | ⟨s, t, hs, ht, ⟨h, _⟩ | ⟨w, hb, _, _, e2, e3⟩⟩
  · rcases h with h | h
    · exact absurd (List.mem_of_getElem? hs') h
    · exact absurd (List.mem_of_getElem? ht') h
  · obtain rfl := hv.uniq hs hs'
    obtain rfl := hv.uniq ht ht'
    exact absurd hw (h _)
  · obtain rfl := hv.uniq hs hs'
    obtain rfl := hv.uniq ht ht'
    have := (hb.2 _ hw).cost
    simp only at this
    refine ⟨e3, ?_⟩
    rw [e2]; omega
theorem path_self {vs : List Int} {ls : List Ln} {lim : Nd} {a : Int} (hv : Vg vs ls) (h : PathOk vs ls lim a a) (ha : a ∈ vs) : pathC vs ls lim a a = ([], 0, 0) := by
  rcases h with ⟨h, _⟩ | ⟨s, t, hs, ht, ⟨h, _⟩ | ⟨y, hy, _, e1, e2, e3⟩⟩
  · rcases h with h | h <;> exact absurd ha h
  · obtain rfl := hv.uniq hs ht
    have := h.self
    cases this
  · obtain rfl := hv.uniq hs ht
    have := hy.self
    cases this
    exact Prod.ext e1 (Prod.ext e2 e3)

set_option maxRecDepth 100000 in
set_option maxHeartbeats 4000000 in
theorem GraphWays_any (A : Option Addr) (n c : Nat) (B : Option Addr) (m d : Nat) (xs : List UInt8) (ys : List R6) (w0 w1 m0 m1 m2 : UInt8) (w : World) (hr : Rd w 1 A n (xs.map byteV)) (hl : Rd w 6 B m (ys.flatMap r6V)) :
    Calls Try.prog 5 #[.agg (grV A n c B m d).toArray, .agg #[byteV w0, byteV w1], .agg #[byteV m0, byteV m1, byteV m2]] w fun e w' => e = .returned (.bool true) ∧ Below w.heap.size w w' := by
  obtain ⟨i28, hi28, hz28, hs28, hy28⟩ := info_parts info28
  obtain ⟨i33, hi33, hz33, hs33, hy33⟩ := info_parts info33
  obtain ⟨i44, hi44, hz44, hs44, hy44⟩ := info_parts info44
  obtain ⟨i53, hi53, hz53, hs53, hy53⟩ := info_parts info53
  obtain ⟨d25, hd25, hrow25⟩ := und25
  obtain ⟨d28, hd28, hrow28⟩ := und28
  obtain ⟨d33, hd33, hrow33⟩ := und33
  obtain ⟨d44, hd44, hrow44⟩ := und44
  obtain ⟨d53, hd53, hrow53⟩ := und53
  obtain ⟨i40, hi40, hz40, hs40, hy40⟩ := info_parts info40
  obtain ⟨d40, hd40, hrow40⟩ := und40
  have hxl := hr.len1
  obtain ⟨N, hN⟩ : ∃ N, N = min n 7 := ⟨_, rfl⟩
  obtain ⟨M, hM⟩ : ∃ M, M = madeM xs ys := ⟨_, rfl⟩
  obtain ⟨VS, hVS⟩ : ∃ VS, VS = verN xs (min n 7) := ⟨_, rfl⟩
  obtain ⟨LS, hLS⟩ : ∃ LS, LS = madeL xs ys := ⟨_, rfl⟩
  obtain ⟨ND, hND⟩ : ∃ x, x = needN m0 m1 m2 := ⟨_, rfl⟩
  have hvg : Vg VS LS := by rw [hVS, hLS]; exact made_vg xs ys hxl
  have hbd : ∀ x ∈ VS, 1 ≤ x ∧ x ≤ 21 := fun x hx => by rw [hVS] at hx; have := verN_bd hx; omega
  have hVl : VS.length = N := by rw [hVS, hN, verN_len]
  have hLl : LS.length = M := by rw [hLS, hM, madeL_len]
  have hM14 : M ≤ 14 := by rw [hM]; exact madeM_le xs ys
  have Hr := Lib.hid hr
  have Hl := Lib.hid hl
  have Hvg := Lib.hid hvg
  have Hbd := Lib.hid hbd
  have HVl := Lib.hid hVl
  have HLl := Lib.hid hLl
  have HNe := Lib.hid hN
  have hN7 : N ≤ 7 := by omega
  have hMade : ∀ W : World, Rd W 1 A n (xs.map byteV) → Rd W 6 B m (ys.flatMap r6V) → Calls Try.prog 12 #[.agg (grV A n c B m d).toArray] W fun e w' => (∃ A' c' B' d', e = .returned (.agg (grV A' N c' B' M d').toArray) ∧ TRd w' 3 1 A' N (VS.map intV) ∧ TRd w' 53 8 B' M (LS.flatMap lnV)) ∧ Below W.heap.size W w' := fun W h1 h2 => by
    rw [hN, hM, hVS, hLS]; exact Made_C A n c B m d xs ys W h1 h2
  have HMade := Lib.hid hMade
  have hHNeed : ∀ W : World, Calls Try.prog 13 #[.agg #[byteV m0, byteV m1, byteV m2]] W fun e w' => e = .returned (.agg (ndV ND).toArray) ∧ Below W.heap.size W w' := fun W => by rw [hND]; exact Need_any m0 m1 m2 W
  have HNeed := Lib.hid hHNeed
  clear hr hl hvg hbd hxl hN hM hVS hLS hMade hVl hLl hHNeed hND
  go_enter Try.func5, Try.ntmps5
  go_upto_region 1 with fail
  try simp only [World.size_alloc]
  obtain ⟨v1, hv1⟩ : ∃ v, v = ((w.alloc (.cells (grV A n c B m d).toArray 25)).alloc (.cells #[byteV w0, byteV w1] 26)).alloc (.cells #[byteV m0, byteV m1, byteV m2] 36) := ⟨_, rfl⟩
  have hB : Below w.heap.size w v1 := by rw [hv1]; exact ((((Below.refl _ _).alloc (Nat.le_refl _) _).alloc (by simp) _).alloc (by simp; omega) _)
  have hC : Blk v1 (w.heap.size) 25 (grV A n c B m d).toArray := by
    have := Blk.new w 25 (grV A n c B m d).toArray
    rw [hv1]; exact ((this.alloc _).alloc _)
  have hX0 : Blk v1 (w.heap.size + 1) 26 #[byteV w0, byteV w1] := by
    have := Blk.new (w.alloc (.cells (grV A n c B m d).toArray 25)) 26 #[byteV w0, byteV w1]
    rw [World.size_alloc] at this
    rw [hv1]; exact (this.alloc _)
  have hX1 : Blk v1 (w.heap.size + 1 + 1) 36 #[byteV m0, byteV m1, byteV m2] := by
    have := Blk.new ((w.alloc (.cells (grV A n c B m d).toArray 25)).alloc (.cells #[byteV w0, byteV w1] 26)) 36 #[byteV m0, byteV m1, byteV m2]
    rw [World.size_alloc, World.size_alloc] at this
    rw [hv1]; exact this
  rw [← hv1]
  clear hv1
  have HC := Lib.hid hC
  have HX0 := Lib.hid hX0
  have HX1 := Lib.hid hX1
  have HB := Lib.hid hB
  clear hC hX0 hX1 hB
  go_upto_region 2 with fail
  refine (sanity_any v1).mono ?_
  rintro e v2 ⟨rfl, hb2⟩
  replace HC := Lib.hid (HC.out.below hb2 HC.out.lt)
  replace HX0 := Lib.hid (HX0.out.below hb2 HX0.out.lt)
  replace HX1 := Lib.hid (HX1.out.below hb2 HX1.out.lt)
  replace HB := Lib.hid (HB.out.trans (hb2.mono HB.out.size))
  clear hb2
  replace Hr := Lib.hid (Hr.out.below HB.out)
  replace Hl := Lib.hid (Hl.out.below HB.out)
  go_upto_region 2 with fail
  have Hrw := Lib.hid (Blk.range HC.out)
  have Hmd := Lib.hid (HMade.out v2 Hr.out Hl.out)
  go_upto_region 3 with (refine wpList_load_mid rfl 25 (.tmp 3) rfl w.heap.size 0 rfl (grV A n c B m d) d25 Hrw.out hd25 hrow25 (by rw [grV_len]; kernel_rfl) ?_)
  refine Hmd.out.mono ?_
  rintro e v2' ⟨⟨GA, gc, GB, gd, rfl, hg1, hg2⟩, hb2⟩
  have HRd := Lib.hid hg1
  have HLd := Lib.hid hg2
  replace HX0 := Lib.hid (HX0.out.below hb2 HX0.out.lt)
  replace HX1 := Lib.hid (HX1.out.below hb2 HX1.out.lt)
  replace HB := Lib.hid (HB.out.trans (hb2.mono HB.out.size))
  clear hb2
  have hn_ : Blk (v2'.alloc (.cells (grV none 0 0 none 0 0).toArray 33)) v2'.heap.size 33 (grV none 0 0 none 0 0).toArray := Blk.new _ _ _
  have Hn_ := Lib.hid hn_
  clear hg1 hg2 Hmd Hrw HC Hr Hl HMade hn_
  go_upto_region 3 with (first | (refine wpList_alloc0 rfl 33 rfl (grV none 0 0 none 0 0).toArray _ i33 hi33 hz33 rfl ?_; simp only [Act.put, List.setIfInBounds_toArray, List.set_cons_succ, List.set_cons_zero]) | (refine wpList_store_row rfl 33 (.tmp 8) (.tmp 17) rfl v2'.heap.size (grV GA N gc GB M gd).toArray rfl rfl 33 (grV none 0 0 none 0 0).toArray Hn_.out (size33 _ rfl) rfl (gr_one _ _ _ _ _ _) ?_))
  obtain ⟨v3, hv3⟩ : ∃ v, v = (v2'.alloc (.cells (grV none 0 0 none 0 0).toArray 33)).setRow v2'.heap.size (grV GA N gc GB M gd).toArray := ⟨_, rfl⟩
  have hb3 : Below v2'.heap.size v2' v3 := by rw [hv3]; exact Below.setRow ((Below.refl _ _).alloc (Nat.le_refl _) _) (Nat.le_refl _) _
  have HG := Lib.hid (show Blk v3 v2'.heap.size 33 (grV GA N gc GB M gd).toArray by rw [hv3]; exact setRow_heap _ _ _ _ _ _ Hn_.out)
  rw [← hv3]
  clear hv3 Hn_
  obtain ⟨BG, hBG⟩ : ∃ v, v = v2'.heap.size := ⟨_, rfl⟩
  rw [← hBG] at HG ⊢
  clear hBG
  replace HX0 := Lib.hid (HX0.out.below hb3 HX0.out.lt)
  replace HX1 := Lib.hid (HX1.out.below hb3 HX1.out.lt)
  replace HRd := Lib.hid (HRd.out.below hb3)
  replace HLd := Lib.hid (HLd.out.below hb3)
  replace HB := Lib.hid (HB.out.trans (hb3.mono HB.out.size))
  clear hb3
  have g0 : v3.cell? ⟨BG, 0, none⟩ = some (.slice GA N gc) := by rw [HG.out.cell]; rfl
  by_cases hN0 : N = 0
  · rw [hN0] at g0
    clear hN0
    go_wp2_with fail
    go_ret
    exact ⟨rfl, HB.out⟩
  have q1 : ((N : Int) == 0) = false := by rw [beq_eq_false_iff_ne]; omega
  have q2 : (N == 0) = false := by rw [beq_eq_false_iff_ne]; omega
  go_upto_region 5 with fail
  clear q1 q2
  obtain ⟨F0, hF0⟩ : ∃ F, F = w0.toNat % N := ⟨_, rfl⟩
  obtain ⟨F1, hF1⟩ : ∃ F, F = w1.toNat % N := ⟨_, rfl⟩
  have k0 : (w0.toNat : Int) % (N : Int) = (F0 : Int) := by rw [hF0]; exact (Int.natCast_emod _ _).symm
  have k1 : (w1.toNat : Int) % (N : Int) = (F1 : Int) := by rw [hF1]; exact (Int.natCast_emod _ _).symm
  have f0 : F0 < N := by rw [hF0]; exact Nat.mod_lt _ (by omega)
  have f1 : F1 < N := by rw [hF1]; exact Nat.mod_lt _ (by omega)
  have b0 := w0.toNat_lt
  have b1 := w1.toNat_lt
  obtain ⟨vb, vo, va, ea, hva, cva⟩ := HRd.out.rd.at_ f0
  subst ea
  obtain ⟨_, _, vb', ea, hvb, cvb⟩ := HRd.out.rd.at_ f1
  cases ea
  have cva' : v3.cell? ⟨vb, vo + F0, none⟩ = some (.int .i64 va) := cva
  have cvb1 : v3.cell? ⟨vb, vo + F1, none⟩ = some (.int .i64 vb') := cvb
  have d0 : v3.cell? ⟨w.heap.size + 1, 0, none⟩ = some (.int .u8 (w0.toNat : Int)) := by rw [HX0.out.cell]; rfl
  have d1 : v3.cell? ⟨w.heap.size + 1, 1, none⟩ = some (.int .u8 (w1.toNat : Int)) := by rw [HX0.out.cell]; rfl
  have hr5 : ∀ w', Ext v3 w' → w'.rangeAt (w.heap.size + 1 + 1) 0 [byteV m0, byteV m1, byteV m2] := fun w' hw' => Blk.range (HX1.out.below (ext_below hw') HX1.out.lt)
  have Hr5 := Lib.hid hr5
  have Hva := Lib.hid hva
  have Hvb := Lib.hid hvb
  have g0r := cell_regrown g0
  have c0r := cell_regrown cva'
  have c1r := cell_regrown cvb1
  have d0r := cell_regrown d0
  have d1r := cell_regrown d1
  clear hF0 hF1 hva hvb cva cvb g0 cva' cvb1 d0 d1 hr5
  go_cut [9] from 23 to 47 (fun t9 wx => ∃ BA : Nat, t9 = .pointer (some ⟨BA, 0, none⟩) ∧ Blk wx BA 40 (asV va vb' ND).toArray ∧ Below v3.heap.size v3 wx)
  case first =>
    refine wp_region_reads_tail 26 [0, 1, 2, 3, 4, 5, 6, 7, 8, 9, 10, 11, 12, 13, 14, 15, 16, 17, 18, 19, 20, 21, 22] 3 (by kernel_rfl) (List.take_append_drop _ _) rfl (by kernel_rfl) (by kernel_rfl) (by kernel_rfl) (by decide) (by kernel_rfl) (by kernel_rfl) (fun _ _ d _ _ h => by cases d <;> exact h) (by kernel_rfl) (by kernel_rfl) rfl ?_
    simp only [List.take_succ_cons, List.take_zero, List.drop_succ_cons, List.drop_zero, pickOps, List.getElem?_cons_zero, List.getElem?_cons_succ]
    repeat (first | go_big_quiet_step (fail) | (refine wpQuiet_load_mid rfl 36 (.tmp 5) rfl (w.heap.size + 1 + 1) 0 rfl [byteV m0, byteV m1, byteV m2] _ Hr5.out und36 rfl (by kernel_rfl) ?_; simp only [Act.put, List.setIfInBounds_toArray, List.set_cons_succ, List.set_cons_zero]))
    refine wpQuiet_nil ?_
    clear g0r c0r c1r d0r d1r k0 k1 f0 f1 b0 b1
    refine web_start0 (fs := [floVar 25 9 40 (asV 0 0 nd0).toArray]) [.act 23 [], .act 24 []] _ _ (by kernel_rfl) (fun _ _ d _ _ h => by cases d <;> exact h) ⟨⟨_, rfl, flo_var rfl rfl rfl _ i40 hi40 hz40 rfl⟩, trivial⟩ (by decide) (by decide) (by kernel_rfl) (by kernel_rfl) (ext_drew (ext_refl _)) (by intro F hF; simp at hF; subst hF; simp) 3 (by decide) (by kernel_rfl) ?_
    intro v1 W hW _ o ho K hK
    cases ho
    have hbW : Below v3.heap.size v3 W := ((Below.refl _ v3).drew).trans hW
    simp only [putS, List.foldl_cons, List.foldl_nil, Act.put, List.setIfInBounds_toArray, List.set_cons_succ, List.set_cons_zero]
    have Hnd := Lib.hid (HNeed.out W)
    unfold StepP
    go_simp
    refine Hnd.out.mono ?_
    rintro e W2 ⟨rfl, hb2⟩
    refine hK _ _ (by intro F hF; simp at hF; subst hF; exact ⟨rfl, by simp⟩) hb2 ?_
    have hb2 := hbW.trans (hb2.mono hbW.size)
    clear hK K hW Hnd
    intro v2 W3 hW3 _ o ho K hK
    cases ho
    have hb3 := hb2.trans (hW3.mono hb2.size)
    simp only [putS, List.foldl_cons, List.foldl_nil, Act.put, List.setIfInBounds_toArray, List.set_cons_succ, List.set_cons_zero]
    refine step_buildN rfl 40 _ rfl [(0, .int .i64 va), (1, .int .i64 vb'), (2, .agg (ndV ND).toArray)] rfl _ (built40 _ _ _) ?_
    refine hK _ _ (by intro F hF; simp at hF; subst hF; exact ⟨rfl, by simp [Act.put]⟩) (Below.refl _ _) ?_
    clear hK K hW3 hb2
    intro v5 W8 hW8 hall
    obtain ⟨BA, hvB, hBw, hBb⟩ := hall (floVar 25 9 40 (asV 0 0 nd0).toArray) (by simp) (floVar 25 9 40 (asV 0 0 nd0).toArray) (by simp) rfl
    have hvB' : v5 25 = .pointer (some ⟨BA, 0, none⟩) := hvB
    have hset := Below.setRow (hb3.trans (hW8.mono hb3.size)) hBw (asV va vb' ND).toArray
    have hB' : Blk (W8.setRow BA (asV va vb' ND).toArray) BA 40 (asV va vb' ND).toArray := setRow_heap _ _ _ _ _ _ hBb
    have HX := Lib.hid (And.intro hB' hset)
    simp only [Exit.then, putS, List.foldl_cons, List.foldl_nil, Act.put, List.setIfInBounds_toArray, List.set_cons_succ, List.set_cons_zero]
    rw [hvB']
    refine wpList_store_row rfl 40 (.tmp 9) (.tmp 47) rfl BA (asV va vb' ND).toArray rfl rfl 40 (asV 0 0 nd0).toArray hBb (size40 _ rfl) rfl (as_one _ _ _) ?_
    refine wpList_nil ?_
    clear hset hB' hW8 hb3 hall hvB hvB' hBb hbW
    go_wp2_with fail
    go_meet
    exact ⟨BA, rfl, HX.out⟩
  case' rest => skip
  obtain ⟨BA, rfl, hBA, hb4⟩ := hcut
  obtain ⟨v4, h_⟩ : ∃ v, v = wc := ⟨_, rfl⟩
  subst h_
  have HBA := Lib.hid hBA
  replace HG := Lib.hid (HG.out.below hb4 HG.out.lt)
  replace HX0 := Lib.hid (HX0.out.below hb4 HX0.out.lt)
  replace HRd := Lib.hid (HRd.out.below hb4)
  replace HLd := Lib.hid (HLd.out.below hb4)
  replace HB := Lib.hid (HB.out.trans (hb4.mono HB.out.size))
  clear hb4
  clear hBA g0r c0r c1r d0r d1r k0 k1 f0 f1 b0 b1 Hr5 HX1 HNeed
  go_upto_region 6 with fail
  have Hrg := Lib.hid (Blk.range HG.out)
  have Hra := Lib.hid (Blk.range HBA.out)
  have Hpt := Lib.hid (path_C2 (some ⟨vb, vo, none⟩) N gc GB M gd VS LS va vb' ND v4 HRd.out.rd HLd.out.rd Hvg.out)
  go_upto_region 7 with (first | (refine wpList_load_mid rfl 33 (.tmp 8) rfl BG 0 rfl (grV (some ⟨vb, vo, none⟩) N gc GB M gd) d33 Hrg.out hd33 hrow33 (by rw [grV_len]; kernel_rfl) ?_) | (refine wpList_load_mid rfl 40 (.tmp 9) rfl BA 0 rfl (asV va vb' ND) d40 Hra.out hd40 hrow40 (by rw [asV_len]; kernel_rfl) ?_))
  refine Hpt.out.mono ?_
  rintro e v5 ⟨⟨A1, c1, rfl, hr1, ok1, hcp⟩, hb5⟩
  replace HG := Lib.hid (HG.out.below hb5 HG.out.lt)
  replace HX0 := Lib.hid (HX0.out.below hb5 HX0.out.lt)
  replace HBA := Lib.hid (HBA.out.below hb5 HBA.out.lt)
  replace HRd := Lib.hid (HRd.out.below hb5)
  replace HLd := Lib.hid (HLd.out.below hb5)
  replace HB := Lib.hid (HB.out.trans (hb5.mono HB.out.size))
  clear hb5
  have Hok := Lib.hid ok1
  have hpl := path_links Hvg.out ok1
  obtain ⟨⟨L, n1, x1⟩, hp1⟩ : ∃ p, p = (pathC VS LS ND va vb') := ⟨_, rfl⟩
  have Hp1 := Lib.hid hp1
  rw [← hp1] at hr1 hcp hpl ⊢
  simp only at hr1 hcp hpl
  have Hr1 := Lib.hid hr1
  have Hpl := Lib.hid hpl
  have hn_ : Blk (v5.alloc (.cells (rsV none 0 0 0 0).toArray 44)) v5.heap.size 44 (rsV none 0 0 0 0).toArray := Blk.new _ _ _
  have Hn_ := Lib.hid hn_
  clear hr1 ok1 hp1 hpl Hpt Hrg Hra hn_
  go_upto_region 7 with (first | (refine wpList_alloc0 rfl 44 rfl (rsV none 0 0 0 0).toArray _ i44 hi44 hz44 rfl ?_; simp only [Act.put, List.setIfInBounds_toArray, List.set_cons_succ, List.set_cons_zero]) | (refine wpList_store_row rfl 44 (.tmp 10) (.tmp 50) rfl v5.heap.size (rsV A1 L.length c1 n1 x1).toArray rfl rfl 44 (rsV none 0 0 0 0).toArray Hn_.out (size44 _ rfl) rfl (rs_one _ _ _ _ _) ?_))
  obtain ⟨v6, hv6⟩ : ∃ v, v = (v5.alloc (.cells (rsV none 0 0 0 0).toArray 44)).setRow v5.heap.size (rsV A1 L.length c1 n1 x1).toArray := ⟨_, rfl⟩
  have hb6 : Below v5.heap.size v5 v6 := by rw [hv6]; exact Below.setRow ((Below.refl _ _).alloc (Nat.le_refl _) _) (Nat.le_refl _) _
  have HP := Lib.hid (show Blk v6 v5.heap.size 44 (rsV A1 L.length c1 n1 x1).toArray by rw [hv6]; exact setRow_heap _ _ _ _ _ _ Hn_.out)
  rw [← hv6]
  clear hv6 Hn_
  obtain ⟨BP, hBP⟩ : ∃ v, v = v5.heap.size := ⟨_, rfl⟩
  rw [← hBP] at HP ⊢
  clear hBP
  replace HG := Lib.hid (HG.out.below hb6 HG.out.lt)
  replace HX0 := Lib.hid (HX0.out.below hb6 HX0.out.lt)
  replace HBA := Lib.hid (HBA.out.below hb6 HBA.out.lt)
  replace HRd := Lib.hid (HRd.out.below hb6)
  replace HLd := Lib.hid (HLd.out.below hb6)
  replace Hr1 := Lib.hid (Hr1.out.below hb6)
  replace HB := Lib.hid (HB.out.trans (hb6.mono HB.out.size))
  clear hb6

  clear HX0
  go_wp2_with fail
  go_loopw [11] (fun v11 wr => ∃ j : Nat, v11 = .int .i64 (j : Int) ∧ j ≤ M ∧ Below v6.heap.size v6 wr) (fun v11 _ => M - (intOf v11).toNat)
  case atStart => exact ⟨0, rfl, by omega, Below.refl _ _⟩
  case round =>
    obtain ⟨j, rfl, hjM, hBr⟩ := hrel
    have HBr := Lib.hid hBr
    have g1 : wr.cell? ⟨BG, 1, none⟩ = some (.slice GB M gd) := by rw [(HG.out.below hBr HG.out.lt).cell]; rfl
    have hbx := hBr
    clear hBr
    by_cases lj : j < M
    · have d1 : decide ((j : Int) < (M : Int)) = true := decide_eq_true (by omega)
      replace HBA := Lib.hid (HBA.out.below hbx HBA.out.lt)
      replace HP := Lib.hid (HP.out.below hbx HP.out.lt)
      replace HLd := Lib.hid (HLd.out.below hbx)
      replace HB := Lib.hid (HB.out.trans (hbx.mono HB.out.size))
      clear hbx
      obtain ⟨lb, lo, l, ea, hl, hcl⟩ := HLd.out.rd.flat_ lnV_len (by omega) lj
      subst ea
      have hgl : wr.rangeAt lb (lo + j * 8) (lnV l) := fun q v hv => by
        have := hcl q v hv
        rwa [← Nat.add_assoc] at this
      have Hgl := Lib.hid hgl
      have Hlj := Lib.hid hl
      have hn_ : Blk (wr.alloc (.cells (lnV ln0).toArray 53)) wr.heap.size 53 (lnV ln0).toArray := Blk.new _ _ _
      have Hn_ := Lib.hid hn_
      clear hgl hl hcl hn_
      go_upto_region 11 with (first | (refine wpList_load_mid rfl 53 (.tmp 61) rfl lb (lo + j * 8) rfl (lnV l) d53 Hgl.out hd53 hrow53 (by rw [lnV_len]; kernel_rfl) ?_) | (refine wpList_alloc0 rfl 53 rfl (lnV ln0).toArray _ i53 hi53 hz53 rfl ?_; simp only [Act.put, List.setIfInBounds_toArray, List.set_cons_succ, List.set_cons_zero]) | (refine wpList_store_row rfl 53 (.tmp 12) (.tmp 62) rfl wr.heap.size (lnV l).toArray rfl rfl 53 (lnV ln0).toArray Hn_.out (size53 _ rfl) rfl (ln_one _) ?_))
      obtain ⟨u3, hu3⟩ : ∃ v, v = (wr.alloc (.cells (lnV ln0).toArray 53)).setRow wr.heap.size (lnV l).toArray := ⟨_, rfl⟩
      have hb3 : Below wr.heap.size wr u3 := by rw [hu3]; exact Below.setRow ((Below.refl _ _).alloc (Nat.le_refl _) _) (Nat.le_refl _) _
      have HL3 := Lib.hid (show Blk u3 wr.heap.size 53 (lnV l).toArray by rw [hu3]; exact setRow_heap _ _ _ _ _ _ Hn_.out)
      rw [← hu3]
      clear hu3 Hn_ Hgl d1 g1
      obtain ⟨kb, hkb⟩ : ∃ v, v = wr.heap.size := ⟨_, rfl⟩
      rw [← hkb] at HL3 ⊢
      clear hkb
      replace HBr := Lib.hid (HBr.out.trans (hb3.mono HBr.out.size))
      replace HBA := Lib.hid (HBA.out.below hb3 HBA.out.lt)
      replace HP := Lib.hid (HP.out.below hb3 HP.out.lt)
      replace HB := Lib.hid (HB.out.trans (hb3.mono HB.out.size))
      clear hb3
      have kf : u3.cell? ⟨kb, 0, none⟩ = some (.int .i64 l.f) := by rw [HL3.out.cell]; rfl
      have kt : u3.cell? ⟨kb, 1, none⟩ = some (.int .i64 l.t) := by rw [HL3.out.cell]; rfl
      have qa : u3.cell? ⟨BA, 0, none⟩ = some (.int .i64 va) := by rw [HBA.out.cell]; rfl
      have qb : u3.cell? ⟨BA, 1, none⟩ = some (.int .i64 vb') := by rw [HBA.out.cell]; rfl
      by_cases h1 : l.f = va
      rotate_left
      · have z1 : (l.f == va) = false := by rw [beq_eq_false_iff_ne]; exact h1
        clear h1
        go_wp2_with fail
        exact ⟨⟨j + 1, by go_num, by omega, HBr.out⟩, by simp [intOf]; omega⟩
      by_cases h2 : l.t = vb'
      rotate_left
      · have z1 : (l.f == va) = true := by simpa using h1
        have z2 : (l.t == vb') = false := by rw [beq_eq_false_iff_ne]; exact h2
        clear h1 h2
        go_wp2_with fail
        exact ⟨⟨j + 1, by go_num, by omega, HBr.out⟩, by simp [intOf]; omega⟩
      have z1 : (l.f == va) = true := by simpa using h1
      have z2 : (l.t == vb') = true := by simpa using h2
      have hlk := ways_link Hvg.out Hok.out Hlj.out h1 h2
      rw [← Hp1.out] at hlk
      have Hlk := Lib.hid hlk
      have Hln := Lib.hid (show u3.rangeAt kb 3 (ndV l.n) from fun q v hv => by
        rw [HL3.out.cell, List.getElem?_toArray]
        unfold lnV
        rw [List.getElem?_append_right (by simp)]
        simpa using hv)
      have Hln2 := Lib.hid (show u3.rangeAt BA 2 (ndV ND) from fun q v hv => by
        rw [HBA.out.cell, List.getElem?_toArray]
        unfold asV
        rw [List.getElem?_append_right (by simp)]
        simpa using hv)
      have Hfi := Lib.hid (RFits_any l.n ND u3)
      clear h1 h2 hlk
      go_wp2_with (first | (refine wpList_load_mid_g (by first | rfl | simp [Region.wanted, yielded]) 28 (.tmp 76) rfl kb 3 rfl (ndV l.n) d28 Hln.out hd28 hrow28 (by rw [ndV_len]; kernel_rfl) ?_) | (refine wpList_load_mid_g (by first | rfl | simp [Region.wanted, yielded]) 28 (.tmp 78) rfl BA 2 rfl (ndV ND) d28 Hln2.out hd28 hrow28 (by rw [ndV_len]; kernel_rfl) ?_))
      refine Hfi.out.mono ?_
      rintro e u4 ⟨rfl, hb4⟩
      replace HBr := Lib.hid (HBr.out.trans (hb4.mono HBr.out.size))
      replace HL3 := Lib.hid (HL3.out.below hb4 HL3.out.lt)
      replace HP := Lib.hid (HP.out.below hb4 HP.out.lt)
      replace HB := Lib.hid (HB.out.trans (hb4.mono HB.out.size))
      clear hb4
      clear Hln Hln2 Hfi kf kt qa qb
      have kc : u4.cell? ⟨kb, 2, none⟩ = some (.int .i64 l.c) := by rw [HL3.out.cell]; rfl
      have p1 : u4.cell? ⟨BP, 1, none⟩ = some (.int .i64 n1) := by rw [HP.out.cell]; rfl
      have p2 : u4.cell? ⟨BP, 2, none⟩ = some (.int .i64 x1) := by rw [HP.out.cell]; rfl
      obtain ⟨ft, hft⟩ : ∃ ft, ft = fitsB l.n ND := ⟨_, rfl⟩
      rw [← hft]
      cases ft with
      | false =>
        clear hft
        go_wp2_with fail
        exact ⟨⟨j + 1, by go_num, by omega, HBr.out⟩, by simp [intOf]; omega⟩
      | true =>
        obtain ⟨e3_, e4_⟩ := Hlk.out hft.symm
        have e3 : x1 = 0 := e3_
        have e4 : n1 ≤ l.c := e4_
        have z4 : decide (l.c < n1) = false := decide_eq_false (by omega)
        clear hft e4 e3_ e4_
        subst e3
        go_wp2_with fail
        exact ⟨⟨j + 1, by go_num, by omega, HBr.out⟩, by simp [intOf]; omega⟩
    · obtain rfl : M = j := by omega
      have d1 : decide ((M : Int) < (M : Int)) = false := decide_eq_false (by omega)
      replace HG := Lib.hid (HG.out.below hbx HG.out.lt)
      replace HBA := Lib.hid (HBA.out.below hbx HBA.out.lt)
      replace HP := Lib.hid (HP.out.below hbx HP.out.lt)
      replace HRd := Lib.hid (HRd.out.below hbx)
      replace HLd := Lib.hid (HLd.out.below hbx)
      replace Hr1 := Lib.hid (Hr1.out.below hbx)
      replace HB := Lib.hid (HB.out.trans (hbx.mono HB.out.size))
      clear hbx
      clear lj HBr
      have x10e : wr.cell? ⟨BP, 2, none⟩ = some (.int .i64 x1) := by rw [HP.out.cell]; rfl
      have qa : wr.cell? ⟨BA, 0, none⟩ = some (.int .i64 va) := by rw [HBA.out.cell]; rfl
      have qb : wr.cell? ⟨BA, 1, none⟩ = some (.int .i64 vb') := by rw [HBA.out.cell]; rfl
      by_cases hx1 : x1 = 0
      rotate_left
      · have hx290 : x1 = 290 := by
          have := path_e Hok.out (List.mem_of_getElem? Hva.out) (List.mem_of_getElem? Hvb.out)
          rw [← Hp1.out] at this
          rcases this with h | h
          · exact absurd h hx1
          · exact h
        have hab : (va != vb') = true := by
          rw [bne_iff_ne]
          intro e
          have h2 := Hp1.out
          have h3 := Hok.out
          rw [← e] at h2 h3
          rw [path_self Hvg.out h3 (List.mem_of_getElem? Hva.out)] at h2
          simp only [Prod.mk.injEq] at h2
          exact hx1 h2.2.2
        subst hx290
        clear hx1
        go_wp2_with fail
        go_ret
        exact ⟨rfl, HB.out⟩
      subst hx1
      have p0 : wr.cell? ⟨BP, 0, none⟩ = some (.slice A1 L.length c1) := by rw [HP.out.cell]; rfl
      obtain ⟨s, t, ws, hs, ht, hbs, hlen, hLw, hnw⟩ : ∃ (s t : Nat) (ws : Gr.Wy), VS[s]? = some va ∧ VS[t]? = some vb' ∧ Gr.Best (lksN VS ND LS) s t (some ws) ∧ ws.2.length + 1 ≤ VS.length ∧ L = ws.2 ∧ n1 = (ws.1 : Int) := by
        have h := Hok.out
        unfold PathOk at h
        rw [← Hp1.out] at h
        rcases h with ⟨_, _, _, h⟩ | ⟨s, t, hs, ht, ⟨_, _, _, h⟩ | ⟨ws, hw, hl, e1, e2, _⟩⟩
        · simp at h
        · simp at h
        · exact ⟨s, t, ws, hs, ht, hw, hl, e1, e2⟩
      have hwk : Gr.Walk (lksN VS ND LS) s t (ws.1, L) := by rw [hLw]; exact hbs.1
      have Hfo := Lib.hid (Follow_any (some ⟨vb, vo, none⟩) N gc GB M gd VS LS va vb' ND A1 c1 L s t ws.1 wr HLd.out.rd Hr1.out.rd Hvg.out hs ht hwk Hpl.out.1)
      have hLN : L.length < N := by rw [hLw, ← HVl.out]; omega
      have hself : va = vb' → L = [] := fun e => by
        have e2 : s = t := Hvg.out.uniq hs (by rw [e]; exact ht)
        subst e2
        have := hbs.self
        rw [hLw]
        cases this
        rfl
      have Hself := Lib.hid hself
      have Hrg := Lib.hid (Blk.range HG.out)
      have Hra := Lib.hid (Blk.range HBA.out)
      rw [← hnw] at Hfo
      clear hs ht hbs hlen hLw hwk hself hnw
      go_upto_region 15 with fail
      clear x10e qa qb d1
      go_upto_region 16 with (first | (refine wpList_load_mid rfl 33 (.tmp 8) rfl BG 0 rfl (grV (some ⟨vb, vo, none⟩) N gc GB M gd) d33 Hrg.out hd33 hrow33 (by rw [grV_len]; kernel_rfl) ?_) | (refine wpList_load_mid rfl 40 (.tmp 9) rfl BA 0 rfl (asV va vb' ND) d40 Hra.out hd40 hrow40 (by rw [asV_len]; kernel_rfl) ?_))
      refine Hfo.out.mono ?_
      rintro e v7 ⟨rfl, hb7⟩
      replace HG := Lib.hid (HG.out.below hb7 HG.out.lt)
      replace HBA := Lib.hid (HBA.out.below hb7 HBA.out.lt)
      replace HP := Lib.hid (HP.out.below hb7 HP.out.lt)
      replace HB := Lib.hid (HB.out.trans (hb7.mono HB.out.size))
      clear hb7
      clear p0 Hrg Hra Hfo
      have p0 : v7.cell? ⟨BP, 0, none⟩ = some (.slice A1 L.length c1) := by rw [HP.out.cell]; rfl
      have p1 : v7.cell? ⟨BP, 1, none⟩ = some (.int .i64 n1) := by rw [HP.out.cell]; rfl
      have g0 : v7.cell? ⟨BG, 0, none⟩ = some (.slice (some ⟨vb, vo, none⟩) N gc) := by rw [HG.out.cell]; rfl
      have qa : v7.cell? ⟨BA, 0, none⟩ = some (.int .i64 va) := by rw [HBA.out.cell]; rfl
      have qb : v7.cell? ⟨BA, 1, none⟩ = some (.int .i64 vb') := by rw [HBA.out.cell]; rfl
      have z1 : decide ((L.length : Int) < (N : Int)) = true := decide_eq_true (by omega)
      have z2 : decide (L.length < N) = true := decide_eq_true hLN
      by_cases hab : va = vb'
      · have hL0 := Hself.out hab
        subst hL0
        have z3 : (va != vb') = false := by simpa using hab
        clear hab
        go_wp2_with fail
        go_ret
        exact ⟨rfl, HB.out⟩
      · have z3 : (va != vb') = true := by simpa using hab
        clear hab
        go_wp2_with fail
        go_ret
        exact ⟨rfl, HB.out⟩
end Go.Proofs.Ytgelchbbknckcaa
