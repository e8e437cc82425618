/- The law GraphReaches. -/
import Derived.Test.YtgelchbbknckcaaG21
namespace Go.Proofs.Ytgelchbbknckcaa
open Go.RowKit Go.Sort

def spE (vs : List Int) (ls : List Ln) (lim : Nd) (fr tv : Int) : Spec := ⟨fun v _ => v = .int .i64 (pathC vs ls lim fr tv).2.2 ∧ PathOk vs ls lim fr tv, fun _ _ _ h _ => h⟩
theorem val_eqI42 {P : Program} {Q : Exit → Act → World → Prop} {o : Oper} {a : Act} {W : World} {R : Value → World → Prop} (t t' : TypeId) (x y : Operand) (ho : o.op = .binOp .eql t x y t') (m n : Int) (hx : a.eval x = .int .i64 m) (hy : a.eval y = .int .i64 n) (h : R (.bool (m == n)) W) : Val P Q o a W (fun v W' => Below W.heap.size W W' ∧ R v W') := val_eqI t t' x y ho m n hx hy h
theorem reach_path {vs : List Int} {ls : List Ln} {lim : Nd} {a x : Int} (hv : Vg vs ls) (hr : ReachOk vs ls lim a) (hp : PathOk vs ls lim a x) : (pathC vs ls lim a x).2.2 = 0 ↔ x ∈ reachC vs ls lim a := by
  obtain ⟨bs, hb, e⟩ := hr
  rw [e]
  constructor
  · intro h0
    rcases hp with ⟨_, _, _, h⟩ | ⟨s, t, hs, ht, ⟨_, _, _, h⟩ | ⟨w, hw, _, _, _, _⟩⟩
    · omega
    · omega
    · have htl : t < bs.length := by rw [hb.1]; exact (List.getElem?_eq_some_iff.1 ht).1
      have h1 := (hb.2.1 s hs t _ (List.getElem?_eq_getElem htl)).1
      exact reachL_mem.2 ⟨t, w, ht, by rw [List.getElem?_eq_getElem htl, h1.uniq hw]⟩
  · intro hm
    obtain ⟨k, b, hk, hbk⟩ := reachL_mem.1 hm
    rcases hp with ⟨h, _⟩ | ⟨s, t, hs, ht, ⟨h, _⟩ | ⟨w, _, _, _, _, h⟩⟩
    · rcases h with h | h
      · have := hb.2.2 h _ (List.mem_of_getElem? hbk); cases this
      · exact absurd (List.mem_of_getElem? hk) h
    · obtain rfl := hv.uniq hk ht
      have := (hb.2.1 s hs k _ hbk).1.uniq h
      cases this
    · exact h
theorem idxI_pos (vs : List Int) (x : Int) : 0 ≤ idxI vs x ↔ x ∈ vs := by
  have h := idxI_neg vs x
  constructor
  · intro h1
    exact Decidable.byContradiction fun h2 => by have := h.2 h2; omega
  · intro h1
    exact Decidable.byContradiction fun h2 => h.1 (by omega) h1
theorem reach_step {vs : List Int} {ls : List Ln} {lim : Nd} {a : Int} {j : Nat} {l : Ln} (hv : Vg vs ls) (hr : ReachOk vs ls lim a) (hl : ls[j]? = some l) (hf : fitsB l.n lim = true) (hm : l.f ∈ reachC vs ls lim a) : l.t ∈ reachC vs ls lim a := by
  obtain ⟨bs, hb, e⟩ := hr
  rw [e] at hm ⊢
  obtain ⟨k, b, hk, hbk⟩ := reachL_mem.1 hm
  have ha : a ∈ vs := Decidable.byContradiction fun h => by have := hb.2.2 h _ (List.mem_of_getElem? hbk); cases this
  obtain ⟨s, _, _, hs⟩ := idx_lt ha
  obtain ⟨t, _, htl, ht⟩ := idx_lt (hv.ln j l hl).2.1
  have hlk := hv.at_ lim hl hk ht
  rw [hf] at hlk
  have hw := Gr.Walk.snoc (hb.2.1 s hs k _ hbk).1.1 hlk
  have htb : t < bs.length := by rw [hb.1]; exact htl
  have h1 := (hb.2.1 s hs t _ (List.getElem?_eq_getElem htb)).1
  cases e2 : bs[t] with
  | none => rw [e2] at h1; exact absurd hw (h1 _)
  | some x => exact reachL_mem.2 ⟨t, x, ht, by rw [List.getElem?_eq_getElem htb, e2]⟩
theorem reach_self {vs : List Int} {ls : List Ln} {lim : Nd} {a : Int} (hr : ReachOk vs ls lim a) (ha : a ∈ vs) : a ∈ reachC vs ls lim a := by
  obtain ⟨bs, hb, e⟩ := hr
  rw [e]
  obtain ⟨s, _, hsl, hs⟩ := idx_lt ha
  have htb : s < bs.length := by rw [hb.1]; exact hsl
  have h1 := (hb.2.1 s hs s _ (List.getElem?_eq_getElem htb)).1.self
  exact reachL_mem.2 ⟨s, _, hs, by rw [List.getElem?_eq_getElem htb, h1]⟩
theorem reach_sub {vs : List Int} {ls : List Ln} {lim : Nd} {a x : Int} (hr : ReachOk vs ls lim a) (hx : x ∈ reachC vs ls lim a) : x ∈ vs := by
  obtain ⟨bs, hb, e⟩ := hr
  rw [e] at hx
  obtain ⟨k, b, hk, _⟩ := reachL_mem.1 hx
  exact List.mem_of_getElem? hk
theorem reachC_len {vs : List Int} {ls : List Ln} {lim : Nd} {a : Int} (hr : ReachOk vs ls lim a) : (reachC vs ls lim a).length ≤ vs.length := by
  obtain ⟨bs, _, e⟩ := hr
  rw [e]; exact reachL_len vs bs
theorem reachL_sub : ∀ (vs : List Int) (bs : List (Option Gr.Wy)), (reachL vs bs).Sublist vs
  | [], _ => by simp [reachL]
  | _ :: _, [] => by simp [reachL]
  | _ :: vs, none :: bs => (reachL_sub vs bs).cons _
  | _ :: vs, some _ :: bs => (reachL_sub vs bs).cons_cons _
theorem reach_inc {vs : List Int} {ls : List Ln} {lim : Nd} {a : Int} (hv : Vg vs ls) (hr : ReachOk vs ls lim a) {i j : Nat} {x y : Int} (hij : i < j) (hx : (reachC vs ls lim a)[i]? = some x) (hy : (reachC vs ls lim a)[j]? = some y) : x < y := by
  obtain ⟨bs, _, e⟩ := hr
  rw [e] at hx hy
  have hp : vs.Pairwise (· < ·) := List.pairwise_iff_getElem.2 fun i j hi hj h => hv.inc i j _ _ h (List.getElem?_eq_getElem hi) (List.getElem?_eq_getElem hj)
  have hq := hp.sublist (reachL_sub vs bs)
  obtain ⟨h1, rfl⟩ := List.getElem?_eq_some_iff.1 hx
  obtain ⟨h2, rfl⟩ := List.getElem?_eq_some_iff.1 hy
  exact List.pairwise_iff_getElem.1 hq i j h1 h2 hij

set_option maxRecDepth 100000 in
set_option maxHeartbeats 4000000 in
theorem GraphReaches_any (A : Option Addr) (n c : Nat) (B : Option Addr) (m d : Nat) (xs : List UInt8) (ys : List R6) (w0 m0 m1 m2 : UInt8) (w : World) (hr : Rd w 1 A n (xs.map byteV)) (hl : Rd w 6 B m (ys.flatMap r6V)) :
    Calls Try.prog 6 #[.agg (grV A n c B m d).toArray, .int .u8 (w0.toNat : Int), .agg #[byteV m0, byteV m1, byteV m2]] w fun e w' => e = .returned (.bool true) ∧ Below w.heap.size w w' := by
  obtain ⟨i28, hi28, hz28, hs28, hy28⟩ := info_parts info28
  obtain ⟨i33, hi33, hz33, hs33, hy33⟩ := info_parts info33
  obtain ⟨i44, hi44, hz44, hs44, hy44⟩ := info_parts info44
  obtain ⟨i53, hi53, hz53, hs53, hy53⟩ := info_parts info53
  obtain ⟨d25, hd25, hrow25⟩ := und25
  obtain ⟨d28, hd28, hrow28⟩ := und28
  obtain ⟨d33, hd33, hrow33⟩ := und33
  obtain ⟨d44, hd44, hrow44⟩ := und44
  obtain ⟨d53, hd53, hrow53⟩ := und53
  have hxl := hr.len1
  obtain ⟨N, hN⟩ : ∃ N, N = min n 7 := ⟨_, rfl⟩
  obtain ⟨M, hM⟩ : ∃ M, M = madeM xs ys := ⟨_, rfl⟩
  obtain ⟨VS, hVS⟩ : ∃ VS, VS = verN xs (min n 7) := ⟨_, rfl⟩
  obtain ⟨LS, hLS⟩ : ∃ LS, LS = madeL xs ys := ⟨_, rfl⟩
  obtain ⟨ND, hND⟩ : ∃ x, x = needN m0 m1 m2 := ⟨_, rfl⟩
  have hvg : Vg VS LS := by rw [hVS, hLS]; exact made_vg xs ys hxl
  have hbd : ∀ x ∈ VS, 1 ≤ x ∧ x ≤ 21 := fun x hx => by rw [hVS] at hx; have := verN_bd hx; omega
  have hVl : VS.length = N := by rw [hVS, hN, verN_len]
  have hLl : LS.length = M := by rw [hLS, hM, madeL_len]
  have hM14 : M ≤ 14 := by rw [hM]; exact madeM_le xs ys
  have Hr := Lib.hid hr
  have Hl := Lib.hid hl
  have Hvg := Lib.hid hvg
  have Hbd := Lib.hid hbd
  have HVl := Lib.hid hVl
  have HLl := Lib.hid hLl
  have HNe := Lib.hid hN
  have hN7 : N ≤ 7 := by omega
  have hMade : ∀ W : World, Rd W 1 A n (xs.map byteV) → Rd W 6 B m (ys.flatMap r6V) → Calls Try.prog 12 #[.agg (grV A n c B m d).toArray] W fun e w' => (∃ A' c' B' d', e = .returned (.agg (grV A' N c' B' M d').toArray) ∧ TRd w' 3 1 A' N (VS.map intV) ∧ TRd w' 53 8 B' M (LS.flatMap lnV)) ∧ Below W.heap.size W w' := fun W h1 h2 => by
    rw [hN, hM, hVS, hLS]; exact Made_C A n c B m d xs ys W h1 h2
  have HMade := Lib.hid hMade
  have hHNeed : ∀ W : World, Calls Try.prog 13 #[.agg #[byteV m0, byteV m1, byteV m2]] W fun e w' => e = .returned (.agg (ndV ND).toArray) ∧ Below W.heap.size W w' := fun W => by rw [hND]; exact Need_any m0 m1 m2 W
  have HNeed := Lib.hid hHNeed
  clear hr hl hvg hbd hxl hN hM hVS hLS hMade hVl hLl hHNeed hND
  go_enter Try.func6, Try.ntmps6
  go_upto_region 1 with fail
  try simp only [World.size_alloc]
  obtain ⟨v1, hv1⟩ : ∃ v, v = (w.alloc (.cells (grV A n c B m d).toArray 25)).alloc (.cells #[byteV m0, byteV m1, byteV m2] 36) := ⟨_, rfl⟩
  have hB : Below w.heap.size w v1 := by rw [hv1]; exact (((Below.refl _ _).alloc (Nat.le_refl _) _).alloc (by simp) _)
  have hC : Blk v1 (w.heap.size) 25 (grV A n c B m d).toArray := by
    have := Blk.new w 25 (grV A n c B m d).toArray
    rw [hv1]; exact (this.alloc _)
  have hX1 : Blk v1 (w.heap.size + 1) 36 #[byteV m0, byteV m1, byteV m2] := by
    have := Blk.new (w.alloc (.cells (grV A n c B m d).toArray 25)) 36 #[byteV m0, byteV m1, byteV m2]
    rw [World.size_alloc] at this
    rw [hv1]; exact this
  rw [← hv1]
  clear hv1
  have HC := Lib.hid hC
  have HX1 := Lib.hid hX1
  have HB := Lib.hid hB
  clear hC hX1 hB
  go_upto_region 2 with fail
  refine (sanity_any v1).mono ?_
  rintro e v2 ⟨rfl, hb2⟩
  replace HC := Lib.hid (HC.out.below hb2 HC.out.lt)
  replace HX1 := Lib.hid (HX1.out.below hb2 HX1.out.lt)
  replace HB := Lib.hid (HB.out.trans (hb2.mono HB.out.size))
  clear hb2
  replace Hr := Lib.hid (Hr.out.below HB.out)
  replace Hl := Lib.hid (Hl.out.below HB.out)
  go_upto_region 2 with fail
  go_cut [8, 9] from 19 to 22 (fun t8 t9 wx => ∃ (BG BN0 : Nat) (GA : Option Addr) (gc : Nat) (GB : Option Addr) (gd : Nat), t8 = .pointer (some ⟨BG, 0, none⟩) ∧ t9 = .pointer (some ⟨BN0, 0, none⟩) ∧ Blk wx BG 33 (grV GA N gc GB M gd).toArray ∧ Blk wx BN0 28 (ndV ND).toArray ∧ TRd wx 3 1 GA N (VS.map intV) ∧ TRd wx 53 8 GB M (LS.flatMap lnV) ∧ Below v2.heap.size v2 wx)
  case first =>
    refine wp_region_flow_tail 6 [19, 20, 21, 22, 8, 9] [(Spec.is (.agg (grV A n c B m d).toArray), false), (spGr N M VS LS, false), (Spec.is (.agg #[byteV m0, byteV m1, byteV m2]), false), (Spec.is (.agg (ndV ND).toArray), false), (spVar 33 (grV none 0 0 none 0 0).toArray, true), (spVar 28 (ndV nd0).toArray, true)] 148 (by kernel_rfl) (List.take_append_drop _ _) rfl (by kernel_rfl) (by kernel_rfl) (by kernel_rfl) (by decide) (by kernel_rfl) (by kernel_rfl) (fun _ _ d _ _ h => by cases d <;> exact h) rfl (by decide) rfl (by decide) (by kernel_rfl) ?_ ?_
    · refine ⟨?_, ?_, ?_, ?_, ?_, ?_, trivial⟩
      · intro a W hE hb hs
        have h3 : a.eval (.tmp 3) = .pointer (some ⟨w.heap.size, 0, none⟩) := hb 3 (by decide)
        refine flow0 rfl ?_
        exact val_load_row 25 _ rfl w.heap.size 0 h3 (grV A n c B m d) d25 (Blk.range (HC.out.below (ext_below hE) HC.out.lt)) hd25 hrow25 (by rw [grV_len]; kernel_rfl) ⟨rfl, trivial⟩
      · intro a W hE hb hs
        have h19 : a.eval (.tmp 19) = .agg (grV A n c B m d).toArray := hs 0 (by decide)
        refine flow0 rfl ?_
        exact val_call 12 _ _ rfl (by kernel_rfl) [.agg (grV A n c B m d).toArray] (by show [a.eval (.tmp 19)] = _; rw [h19]) ((HMade.out W (Hr.out.below (ext_below hE)) (Hl.out.below (ext_below hE))).mono (by rintro e W' ⟨⟨A', c', B', d', rfl, h1, h2⟩, hb⟩; exact ⟨_, rfl, hb, ⟨A', c', B', d', rfl, h1, h2⟩, trivial⟩))
      · intro a W hE hb hs
        have h5 : a.eval (.tmp 5) = .pointer (some ⟨w.heap.size + 1, 0, none⟩) := hb 5 (by decide)
        refine flow0 rfl ?_
        exact val_load_row 36 _ rfl (w.heap.size + 1) 0 h5 [byteV m0, byteV m1, byteV m2] _ (Blk.range (HX1.out.below (ext_below hE) HX1.out.lt)) und36 rfl (by kernel_rfl) ⟨rfl, trivial⟩
      · intro a W hE hb hs
        have h21 : a.eval (.tmp 21) = .agg #[byteV m0, byteV m1, byteV m2] := hs 2 (by decide)
        refine flow0 rfl ?_
        exact val_call 13 _ _ rfl (by kernel_rfl) [.agg #[byteV m0, byteV m1, byteV m2]] (by show [a.eval (.tmp 21)] = _; rw [h21]) ((HNeed.out W).mono (by rintro e W' ⟨rfl, hb⟩; exact ⟨_, rfl, hb, rfl, trivial⟩))
      · intro a W hE hb hs
        refine flow0 rfl ?_
        exact val_alloc _ rfl (grV none 0 0 none 0 0).toArray _ i33 hi33 hz33 rfl ⟨⟨_, rfl, Blk.new _ _ _⟩, _, rfl, Nat.le_refl _, by rw [World.size_alloc]; omega⟩
      · intro a W hE hb hs
        refine flow0 rfl ?_
        exact val_alloc _ rfl (ndV nd0).toArray _ i28 hi28 hz28 rfl ⟨⟨_, rfl, Blk.new _ _ _⟩, _, rfl, Nat.le_refl _, by rw [World.size_alloc]; omega⟩
    · intro f W hbW hT hp hd
      obtain ⟨GA, gc, GB, gd, e20, hg1, hg2⟩ : ∃ (A : Option Addr) (c : Nat) (B : Option Addr) (d : Nat), f 20 = .agg (grV A N c B M d).toArray ∧ TRd W 3 1 A N (VS.map intV) ∧ TRd W 53 8 B M (LS.flatMap lnV) := hT 1 (by decide)
      have e22 : f 22 = .agg (ndV ND).toArray := hT 3 (by decide)
      obtain ⟨BG, eBG, hBG⟩ : ∃ B, f 8 = .pointer (some ⟨B, 0, none⟩) ∧ Blk W B 33 (grV none 0 0 none 0 0).toArray := hT 4 (by decide)
      have lBG : v2.heap.size ≤ BG := by
        obtain ⟨b', h1, h2, _⟩ := hp 4 (by decide) rfl
        have h1' : f 8 = .pointer (some ⟨b', 0, none⟩) := h1
        rw [eBG] at h1'
        injection h1' with h; injection h with h; injection h with h
        omega
      obtain ⟨BN0, eBN0, hBN0⟩ : ∃ B, f 9 = .pointer (some ⟨B, 0, none⟩) ∧ Blk W B 28 (ndV nd0).toArray := hT 5 (by decide)
      have lBN0 : v2.heap.size ≤ BN0 := by
        obtain ⟨b', h1, h2, _⟩ := hp 5 (by decide) rfl
        have h1' : f 9 = .pointer (some ⟨b', 0, none⟩) := h1
        rw [eBN0] at h1'
        injection h1' with h; injection h with h; injection h with h
        omega
      have nBGBN0 : BG ≠ BN0 := hBG.ne hBN0 (by decide)
      have nBN0BG : BN0 ≠ BG := fun e => nBGBN0 e.symm
      have hbZ := hbW
      have HK0 := (KeptIn.refl (fun k => k ≠ BG) (W)).setRow (g := BG) (fun h => h rfl) (grV GA N gc GB M gd).toArray
      have sBG := hBG
      replace hg1 := hg1.kept hBG (by decide) HK0
      replace hg2 := hg2.kept hBG (by decide) HK0
      replace hBN0 := hBN0.keptIn HK0 nBN0BG
      replace hBG : Blk ((W).setRow BG (grV GA N gc GB M gd).toArray) BG 33 (grV GA N gc GB M gd).toArray := setRow_heap _ _ _ _ _ _ sBG
      replace hbZ := Below.setRow hbZ lBG (grV GA N gc GB M gd).toArray
      have HK1 := (KeptIn.refl (fun k => k ≠ BN0) ((W).setRow BG (grV GA N gc GB M gd).toArray)).setRow (g := BN0) (fun h => h rfl) (ndV ND).toArray
      have sBN0 := hBN0
      replace hg1 := hg1.kept hBN0 (by decide) HK1
      replace hg2 := hg2.kept hBN0 (by decide) HK1
      replace hBG := hBG.keptIn HK1 nBGBN0
      replace hBN0 : Blk (((W).setRow BG (grV GA N gc GB M gd).toArray).setRow BN0 (ndV ND).toArray) BN0 28 (ndV ND).toArray := setRow_heap _ _ _ _ _ _ sBN0
      replace hbZ := Below.setRow hbZ lBN0 (ndV ND).toArray
      simp only [List.drop_succ_cons, List.drop_zero]
      simp only [putV, List.foldl_cons, List.foldl_nil, Act.put, List.setIfInBounds_toArray, List.set_cons_succ, List.set_cons_zero]
      rw [eBG, eBN0, e20, e22]
      refine wpList_store_row rfl 33 (.tmp 8) (.tmp 20) rfl BG (grV GA N gc GB M gd).toArray rfl rfl 33 (grV none 0 0 none 0 0).toArray sBG (size33 _ rfl) rfl (gr_one _ _ _ _ _ _) ?_
      refine wpList_store_row rfl 28 (.tmp 9) (.tmp 22) rfl BN0 (ndV ND).toArray rfl rfl 28 (ndV nd0).toArray sBN0 (size28 _ rfl) rfl (nd_one _) ?_
      refine wpList_nil ?_
      have HX := Lib.hid (And.intro hBG (And.intro hBN0 (And.intro hg1 (And.intro hg2 hbZ))))
      clear hT hp hd HK0 HK1 sBG sBN0 hBG hBN0 hg1 hg2 hbZ hbW
      go_wp2_with fail
      go_meet
      exact ⟨BG, BN0, GA, gc, GB, gd, rfl, rfl, HX.out⟩
  case' rest => skip
  obtain ⟨BG, BN0, GA, gc, GB, gd, rfl, rfl, gBG, gBN0, hR, hL, hb3⟩ := hcut
  obtain ⟨v3, h_⟩ : ∃ v, v = wc := ⟨_, rfl⟩
  subst h_
  have HG := Lib.hid gBG
  have HBN0 := Lib.hid gBN0
  have HRd := Lib.hid hR
  have HLd := Lib.hid hL
  clear hR hL gBG gBN0
  replace HB := Lib.hid (HB.out.trans (hb3.mono HB.out.size))
  clear hb3 HC HX1 Hr Hl HMade HNeed
  have g0 : v3.cell? ⟨BG, 0, none⟩ = some (.slice GA N gc) := by rw [HG.out.cell]; rfl
  have b0 := w0.toNat_lt
  by_cases hN0 : N = 0
  · have hVS : VS = [] := List.eq_nil_of_length_eq_zero (by rw [HVl.out, hN0])
    have hre := Reach_C GA N gc GB M gd VS LS (w0.toNat : Int) ND v3 HRd.out.rd HLd.out.rd Hvg.out
    rw [show reachC VS LS ND (w0.toNat : Int) = [] by unfold reachC; rw [hVS]; rfl] at hre
    have Hre := Lib.hid hre
    have Hrg := Lib.hid (Blk.range HG.out)
    have Hrn := Lib.hid (Blk.range HBN0.out)
    rw [hN0] at g0 Hre Hrg
    clear hN0 hVS hre
    go_wp2_with (first | (refine wpList_load_mid rfl 33 (.tmp 8) rfl BG 0 rfl (grV GA 0 gc GB M gd) d33 Hrg.out hd33 hrow33 (by rw [grV_len]; kernel_rfl) ?_) | (refine wpList_load_mid rfl 28 (.tmp 9) rfl BN0 0 rfl (ndV ND) d28 Hrn.out hd28 hrow28 (by rw [ndV_len]; kernel_rfl) ?_))
    refine Hre.out.mono ?_
    rintro e v4 ⟨⟨A4, c4, rfl, _, _⟩, hb4⟩
    have HBz := Lib.hid (HB.out.trans (hb4.mono HB.out.size))
    clear hb4 Hre Hrg Hrn
    go_wp2_with fail
    go_ret
    exact ⟨rfl, HBz.out⟩
  have q1 : ((N : Int) == 0) = false := by rw [beq_eq_false_iff_ne]; omega
  have q2 : (N == 0) = false := by rw [beq_eq_false_iff_ne]; omega
  go_upto_region 5 with fail
  clear q1 q2
  obtain ⟨F0, hF0⟩ : ∃ F, F = w0.toNat % N := ⟨_, rfl⟩
  have k0 : (w0.toNat : Int) % (N : Int) = (F0 : Int) := by rw [hF0]; exact (Int.natCast_emod _ _).symm
  have f0 : F0 < N := by rw [hF0]; exact Nat.mod_lt _ (by omega)
  obtain ⟨vb, vo, va, ea, hva, cva⟩ := HRd.out.rd.at_ f0
  subst ea
  have cva' : v3.cell? ⟨vb, vo + F0, none⟩ = some (.int .i64 va) := cva
  have Hva := Lib.hid (List.mem_of_getElem? hva)
  clear hF0 hva cva
  go_cut [10] from 37 to 46 (fun t10 wx => t10 = .int .i64 va ∧ Below v3.heap.size v3 wx)
  case first =>
    go_quiet (fail)
    go_wp2_with fail
    go_meet
    exact ⟨rfl, below_drewN (Below.refl _ _) _⟩
  case' rest => skip
  obtain ⟨rfl, hb4⟩ := hcut
  obtain ⟨v4, h_⟩ : ∃ v, v = wc := ⟨_, rfl⟩
  subst h_
  replace HG := Lib.hid (HG.out.below hb4 HG.out.lt)
  replace HBN0 := Lib.hid (HBN0.out.below hb4 HBN0.out.lt)
  replace HRd := Lib.hid (HRd.out.below hb4)
  replace HLd := Lib.hid (HLd.out.below hb4)
  replace HB := Lib.hid (HB.out.trans (hb4.mono HB.out.size))
  clear hb4
  clear g0 k0 f0 b0 cva'
  have Hrg := Lib.hid (Blk.range HG.out)
  have Hrn := Lib.hid (Blk.range HBN0.out)
  have Hre := Lib.hid (Reach_C (some ⟨vb, vo, none⟩) N gc GB M gd VS LS va ND v4 HRd.out.rd HLd.out.rd Hvg.out)
  go_upto_region 7 with (first | (refine wpList_load_mid rfl 33 (.tmp 8) rfl BG 0 rfl (grV (some ⟨vb, vo, none⟩) N gc GB M gd) d33 Hrg.out hd33 hrow33 (by rw [grV_len]; kernel_rfl) ?_) | (refine wpList_load_mid rfl 28 (.tmp 9) rfl BN0 0 rfl (ndV ND) d28 Hrn.out hd28 hrow28 (by rw [ndV_len]; kernel_rfl) ?_))
  refine Hre.out.mono ?_
  rintro e v5 ⟨⟨A5, c5, rfl, hrl, hok⟩, hb5⟩
  obtain ⟨RL, hRL⟩ : ∃ x, x = reachC VS LS ND va := ⟨_, rfl⟩
  rw [← hRL] at hrl ⊢
  have HRL := Lib.hid hrl
  have Hok := Lib.hid hok
  have HRe := Lib.hid hRL
  have hRLl : RL.length ≤ 16 := by rw [hRL]; have := reachC_len Hok.out; have := Hvg.out.n; omega
  replace HG := Lib.hid (HG.out.below hb5 HG.out.lt)
  replace HBN0 := Lib.hid (HBN0.out.below hb5 HBN0.out.lt)
  replace HRd := Lib.hid (HRd.out.below hb5)
  replace HLd := Lib.hid (HLd.out.below hb5)
  replace HB := Lib.hid (HB.out.trans (hb5.mono HB.out.size))
  clear hb5
  clear hrl hok hRL Hre Hrg Hrn
  go_upto_region 8 with fail
  obtain ⟨v6, hv6⟩ : ∃ v, v = v5.alloc (.cells #[.slice A5 RL.length c5, .slice none 0 0] 33) := ⟨_, rfl⟩
  have hb6 : Below v5.heap.size v5 v6 := by rw [hv6]; exact (Below.refl _ _).alloc (Nat.le_refl _) _
  have HH := Lib.hid (show Blk v6 v5.heap.size 33 (grV A5 RL.length c5 none 0 0).toArray by rw [hv6]; exact Blk.new _ _ _)
  rw [← hv6]
  clear hv6
  obtain ⟨BH, hBH⟩ : ∃ v, v = v5.heap.size := ⟨_, rfl⟩
  rw [← hBH] at HH ⊢
  clear hBH
  replace HG := Lib.hid (HG.out.below hb6 HG.out.lt)
  replace HBN0 := Lib.hid (HBN0.out.below hb6 HBN0.out.lt)
  replace HRd := Lib.hid (HRd.out.below hb6)
  replace HLd := Lib.hid (HLd.out.below hb6)
  replace HRL := Lib.hid (HRL.out.below hb6)
  replace HB := Lib.hid (HB.out.trans (hb6.mono HB.out.size))
  clear hb6
  go_wp2_with fail
  go_loopw [13] (fun v13 wr => ∃ i : Nat, v13 = .int .i64 (i : Int) ∧ i ≤ N ∧ Below v6.heap.size v6 wr) (fun v13 _ => N - (intOf v13).toNat)
  case atStart => exact ⟨0, rfl, by omega, Below.refl _ _⟩
  case round =>
    obtain ⟨i, rfl, hiN, hBr⟩ := hrel
    have HBr := Lib.hid hBr
    have g0 : wr.cell? ⟨BG, 0, none⟩ = some (.slice (some ⟨vb, vo, none⟩) N gc) := by rw [(HG.out.below hBr HG.out.lt).cell]; rfl
    have hbx := hBr
    clear hBr
    by_cases li : i < N
    · have d1 : decide ((i : Int) < (N : Int)) = true := decide_eq_true (by omega)
      go_upto_region 11 with fail
      clear d1 g0
      replace HG := Lib.hid (HG.out.below hbx HG.out.lt)
      replace HH := Lib.hid (HH.out.below hbx HH.out.lt)
      replace HBN0 := Lib.hid (HBN0.out.below hbx HBN0.out.lt)
      replace HRd := Lib.hid (HRd.out.below hbx)
      replace HLd := Lib.hid (HLd.out.below hbx)
      replace HRL := Lib.hid (HRL.out.below hbx)
      replace HB := Lib.hid (HB.out.trans (hbx.mono HB.out.size))
      clear hbx
      obtain ⟨_, _, vi, ea, hvi, cvi0⟩ := HRd.out.rd.at_ li
      cases ea
      have cvi : wr.cell? ⟨vb, vo + i, none⟩ = some (.int .i64 vi) := cvi0
      clear cvi0 hvi
      go_cut [14] from 60 to 70 (fun t14 wx => t14 = .int .i64 (pathC VS LS ND va vi).2.2 ∧ PathOk VS LS ND va vi ∧ Below wr.heap.size wr wx)
      case first =>
        refine wp_region_flowF [60, 61, 62, 63, 64, 65, 66, 67, 68, 69, 70, 14] [(Spec.is (.agg (grV (some ⟨vb, vo, none⟩) N gc GB M gd).toArray), false), (Spec.is (.int .i64 va), false), (Spec.is (.pointer (some ⟨BG, 0, none⟩)), false), (Spec.is (.slice (some ⟨vb, vo, none⟩) N gc), false), (Spec.is (.int .i64 (i : Int)), false), (Spec.is (.pointer (some ⟨vb, vo + i, none⟩)), false), (Spec.is (.int .i64 vi), false), (Spec.is (.agg (ndV ND).toArray), false), (Spec.is (.agg (asV va vi ND).toArray), false), (spPa VS LS ND va vi, false), (spE VS LS ND va vi, false), (spE VS LS ND va vi, false)] 148 (by kernel_rfl) rfl (by decide) rfl (by decide) (by kernel_rfl) ?_ ?_
        · refine ⟨?_, ?_, ?_, ?_, ?_, ?_, ?_, ?_, ?_, ?_, ?_, ?_, trivial⟩
          · intro a W hE hb hs
            have h8 : a.eval (.tmp 8) = .pointer (some ⟨BG, 0, none⟩) := hb 8 (by decide)
            refine flow0 rfl ?_
            exact val_load_row 33 _ rfl BG 0 h8 (grV (some ⟨vb, vo, none⟩) N gc GB M gd) d33 (Blk.range (HG.out.below (ext_below hE) HG.out.lt)) hd33 hrow33 (by rw [grV_len]; kernel_rfl) ⟨rfl, trivial⟩
          · intro a W hE hb hs
            have h10 : a.eval (.tmp 10) = .int .i64 va := hb 10 (by decide)
            refine flow0 rfl ?_
            exact val_move _ rfl _ h10 ⟨rfl, trivial⟩
          · intro a W hE hb hs
            have h8 : a.eval (.tmp 8) = .pointer (some ⟨BG, 0, none⟩) := hb 8 (by decide)
            refine flow0 rfl ?_
            intro K hK
            unfold Oper.wp execOp
            simp only [h8]
            simp [go_sem]
            exact hK _ _ ⟨Below.refl _ _, rfl, trivial⟩
          · intro a W hE hb hs
            have h62 : a.eval (.tmp 62) = .pointer (some ⟨BG, 0, none⟩) := hs 2 (by decide)
            refine flow0 rfl ?_
            have g0 : W.cell? ⟨BG, 0, none⟩ = some (.slice (some ⟨vb, vo, none⟩) N gc) := by rw [(HG.out.below (ext_below hE) HG.out.lt).cell]; rfl
            intro K hK
            unfold Oper.wp execOp
            simp only [h62]
            simp [go_sem, g0]
            exact hK _ _ ⟨Below.refl _ _, rfl, trivial⟩
          · intro a W hE hb hs
            have h13 : a.eval (.tmp 13) = .int .i64 (i : Int) := hb 13 (by decide)
            refine flow0 rfl ?_
            exact val_move _ rfl _ h13 ⟨rfl, trivial⟩
          · intro a W hE hb hs
            have h63 : a.eval (.tmp 63) = .slice (some ⟨vb, vo, none⟩) N gc := hs 3 (by decide)
            have h64 : a.eval (.tmp 64) = .int .i64 (i : Int) := hs 4 (by decide)
            refine flow0 rfl ?_
            intro K hK
            unfold Oper.wp execOp
            simp only [h63, h64]
            simp [go_sem, li]
            exact hK _ _ ⟨Below.refl _ _, rfl, trivial⟩
          · intro a W hE hb hs
            have h65 : a.eval (.tmp 65) = .pointer (some ⟨vb, vo + i, none⟩) := hs 5 (by decide)
            refine flow0 rfl ?_
            have c0 : W.cell? ⟨vb, vo + i, none⟩ = some (.int .i64 vi) := ((ext_below hE).cell (World.block_lt_of_cell? _ _ cvi)).trans cvi
            intro K hK
            unfold Oper.wp execOp
            simp only [h65]
            simp [go_sem, c0]
            exact hK _ _ ⟨Below.refl _ _, rfl, trivial⟩
          · intro a W hE hb hs
            have h9 : a.eval (.tmp 9) = .pointer (some ⟨BN0, 0, none⟩) := hb 9 (by decide)
            refine flow0 rfl ?_
            exact val_load_row 28 _ rfl BN0 0 h9 (ndV ND) d28 (Blk.range (HBN0.out.below (ext_below hE) HBN0.out.lt)) hd28 hrow28 (by rw [ndV_len]; kernel_rfl) ⟨rfl, trivial⟩
          · intro a W hE hb hs
            have h61 : a.eval (.tmp 61) = .int .i64 va := hs 1 (by decide)
            have h66 : a.eval (.tmp 66) = .int .i64 vi := hs 6 (by decide)
            have h67 : a.eval (.tmp 67) = .agg (ndV ND).toArray := hs 7 (by decide)
            refine flow0 rfl ?_
            exact val_build 40 _ rfl [(0, .int .i64 va), (1, .int .i64 vi), (2, .agg (ndV ND).toArray)] (by show [(0, a.eval (.tmp 61)), (1, a.eval (.tmp 66)), (2, a.eval (.tmp 67))] = _; rw [h61, h66, h67]) _ (built40 _ _ _) ⟨rfl, trivial⟩
          · intro a W hE hb hs
            have h60 : a.eval (.tmp 60) = .agg (grV (some ⟨vb, vo, none⟩) N gc GB M gd).toArray := hs 0 (by decide)
            have h68 : a.eval (.tmp 68) = .agg (asV va vi ND).toArray := hs 8 (by decide)
            refine flow0 rfl ?_
            exact val_call 18 _ _ rfl (by kernel_rfl) [.agg (grV (some ⟨vb, vo, none⟩) N gc GB M gd).toArray, .agg (asV va vi ND).toArray] (by show [a.eval (.tmp 60), a.eval (.tmp 68)] = _; rw [h60, h68]) ((path_C _ _ _ _ _ _ VS LS va vi ND W (HRd.out.rd.below (ext_below hE)) (HLd.out.rd.below (ext_below hE)) Hvg.out).mono (by rintro e W' ⟨⟨A', c', rfl, hr, hp⟩, hb⟩; exact ⟨_, rfl, hb, ⟨A', c', rfl, hr, hp⟩, trivial⟩))
          · intro a W hE hb hs
            have h69 : ∃ (A : Option Addr) (c : Nat), (a.eval (.tmp 69)) = .agg (rsV A (pathC VS LS ND va vi).1.length c (pathC VS LS ND va vi).2.1 (pathC VS LS ND va vi).2.2).toArray ∧ TRd W 3 1 A (pathC VS LS ND va vi).1.length ((castL (pathC VS LS ND va vi).1).map intV) ∧ PathOk VS LS ND va vi := hs 9 (by decide)
            refine flow0 rfl ?_
            obtain ⟨A1, c1, e1, _, k1⟩ := h69
            exact val_field 44 _ 2 rfl _ _ e1 (field44e _ _ _ _ _ _) ⟨⟨rfl, k1⟩, trivial⟩
          · intro a W hE hb hs
            have h70 : (a.eval (.tmp 70)) = .int .i64 (pathC VS LS ND va vi).2.2 ∧ PathOk VS LS ND va vi := hs 10 (by decide)
            refine flow0 rfl ?_
            obtain ⟨e1, k1⟩ := h70
            exact val_assign _ rfl _ e1 ⟨⟨rfl, k1⟩, trivial⟩
        · intro f W hbW hT hp hd
          obtain ⟨hres, k9⟩ : f 14 = .int .i64 (pathC VS LS ND va vi).2.2 ∧ PathOk VS LS ND va vi := hT 11 (by decide)
          simp only [putV, List.foldl_cons, List.foldl_nil, Act.put, List.setIfInBounds_toArray, List.set_cons_succ, List.set_cons_zero, Exit.then]
          rw [hres]
          have Hend := Lib.hid (And.intro k9 hbW)
          clear hT hp hd hres hbW k9
          go_wp2_with fail
          go_meet
          exact ⟨rfl, Hend.out⟩
      case' rest => skip
      obtain ⟨rfl, k9, hbn⟩ := hcut
      obtain ⟨u4, h_⟩ : ∃ v, v = wc := ⟨_, rfl⟩
      subst h_
      have hiff := reach_path Hvg.out Hok.out k9
      rw [← HRe.out] at hiff
      obtain ⟨e9, he9⟩ : ∃ e9, e9 = (pathC VS LS ND va vi).2.2 := ⟨_, rfl⟩
      rw [← he9] at hiff ⊢
      have hq9 : (e9 == 0) = decide (0 ≤ idxI RL vi) := by
        by_cases h2 : e9 = 0
        · rw [decide_eq_true ((idxI_pos RL vi).2 (hiff.1 h2))]
          simpa using h2
        · rw [decide_eq_false (fun h3 => h2 (hiff.2 ((idxI_pos RL vi).1 h3)))]
          simpa using h2
      have cvi' := (hbn.cell (World.block_lt_of_cell? _ _ cvi)).trans cvi
      clear cvi k9 hiff he9
      have cvi := cvi'
      clear cvi'
      replace HBr := Lib.hid (HBr.out.trans (hbn.mono HBr.out.size))
      replace HG := Lib.hid (HG.out.below hbn HG.out.lt)
      replace HH := Lib.hid (HH.out.below hbn HH.out.lt)
      replace HRL := Lib.hid (HRL.out.below hbn)
      replace HB := Lib.hid (HB.out.trans (hbn.mono HB.out.size))
      clear hbn
      go_upto_region 12 with fail
      go_cut [81] from 71 to 81 (fun t81 wx => t81 = .bool false ∧ Below u4.heap.size u4 wx)
      case first =>
        refine wp_region_flowF [71, 72, 73, 74, 75, 76, 77, 78, 79, 80, 81] [(Spec.is (.int .i64 e9), false), (Spec.is (.bool (e9 == 0)), false), (Spec.is (.agg (grV A5 RL.length c5 none 0 0).toArray), false), (Spec.is (.pointer (some ⟨BG, 0, none⟩)), false), (Spec.is (.slice (some ⟨vb, vo, none⟩) N gc), false), (Spec.is (.int .i64 (i : Int)), false), (Spec.is (.pointer (some ⟨vb, vo + i, none⟩)), false), (Spec.is (.int .i64 vi), false), (Spec.is (.int .i64 (idxI RL vi)), false), (Spec.is (.bool (decide (0 ≤ idxI RL vi))), false), (Spec.is (.bool false), false)] 148 (by kernel_rfl) rfl (by decide) rfl (by decide) (by kernel_rfl) ?_ ?_
        · refine ⟨?_, ?_, ?_, ?_, ?_, ?_, ?_, ?_, ?_, ?_, ?_, trivial⟩
          · intro a W hE hb hs
            have h14 : a.eval (.tmp 14) = .int .i64 e9 := hb 14 (by decide)
            refine flow0 rfl ?_
            exact val_move _ rfl _ h14 ⟨rfl, trivial⟩
          · intro a W hE hb hs
            have h71 : a.eval (.tmp 71) = .int .i64 e9 := hs 0 (by decide)
            refine flow0 rfl ?_
            exact val_eqI42 _ _ _ _ rfl e9 0 h71 rfl ⟨rfl, trivial⟩
          · intro a W hE hb hs
            have h12 : a.eval (.tmp 12) = .pointer (some ⟨BH, 0, none⟩) := hb 12 (by decide)
            refine flow0 rfl ?_
            exact val_load_row 33 _ rfl BH 0 h12 (grV A5 RL.length c5 none 0 0) d33 (Blk.range (HH.out.below (ext_below hE) HH.out.lt)) hd33 hrow33 (by rw [grV_len]; kernel_rfl) ⟨rfl, trivial⟩
          · intro a W hE hb hs
            have h8 : a.eval (.tmp 8) = .pointer (some ⟨BG, 0, none⟩) := hb 8 (by decide)
            refine flow0 rfl ?_
            intro K hK
            unfold Oper.wp execOp
            simp only [h8]
            simp [go_sem]
            exact hK _ _ ⟨Below.refl _ _, rfl, trivial⟩
          · intro a W hE hb hs
            have h74 : a.eval (.tmp 74) = .pointer (some ⟨BG, 0, none⟩) := hs 3 (by decide)
            refine flow0 rfl ?_
            have g0 : W.cell? ⟨BG, 0, none⟩ = some (.slice (some ⟨vb, vo, none⟩) N gc) := by rw [(HG.out.below (ext_below hE) HG.out.lt).cell]; rfl
            intro K hK
            unfold Oper.wp execOp
            simp only [h74]
            simp [go_sem, g0]
            exact hK _ _ ⟨Below.refl _ _, rfl, trivial⟩
          · intro a W hE hb hs
            have h13 : a.eval (.tmp 13) = .int .i64 (i : Int) := hb 13 (by decide)
            refine flow0 rfl ?_
            exact val_move _ rfl _ h13 ⟨rfl, trivial⟩
          · intro a W hE hb hs
            have h75 : a.eval (.tmp 75) = .slice (some ⟨vb, vo, none⟩) N gc := hs 4 (by decide)
            have h76 : a.eval (.tmp 76) = .int .i64 (i : Int) := hs 5 (by decide)
            refine flow0 rfl ?_
            intro K hK
            unfold Oper.wp execOp
            simp only [h75, h76]
            simp [go_sem, li]
            exact hK _ _ ⟨Below.refl _ _, rfl, trivial⟩
          · intro a W hE hb hs
            have h77 : a.eval (.tmp 77) = .pointer (some ⟨vb, vo + i, none⟩) := hs 6 (by decide)
            refine flow0 rfl ?_
            have c0 : W.cell? ⟨vb, vo + i, none⟩ = some (.int .i64 vi) := ((ext_below hE).cell (World.block_lt_of_cell? _ _ cvi)).trans cvi
            intro K hK
            unfold Oper.wp execOp
            simp only [h77]
            simp [go_sem, c0]
            exact hK _ _ ⟨Below.refl _ _, rfl, trivial⟩
          · intro a W hE hb hs
            have h73 : a.eval (.tmp 73) = .agg (grV A5 RL.length c5 none 0 0).toArray := hs 2 (by decide)
            have h78 : a.eval (.tmp 78) = .int .i64 vi := hs 7 (by decide)
            refine flow0 rfl ?_
            exact val_call 25 _ _ rfl (by kernel_rfl) [.agg (grV A5 RL.length c5 none 0 0).toArray, .int .i64 vi] (by show [a.eval (.tmp 73), a.eval (.tmp 78)] = _; rw [h73, h78]) ((Find_any A5 RL.length c5 none 0 0 RL vi W (HRL.out.below (ext_below hE))).mono (by rintro e W' ⟨rfl, hb⟩; exact ⟨_, rfl, hb, rfl, trivial⟩))
          · intro a W hE hb hs
            have h79 : a.eval (.tmp 79) = .int .i64 (idxI RL vi) := hs 8 (by decide)
            refine flow0 rfl ?_
            intro K hK
            unfold Oper.wp execOp
            simp only [h79, BigFrame.eval_const]
            simp [go_sem]
            exact hK _ _ ⟨Below.refl _ _, rfl, trivial⟩
          · intro a W hE hb hs
            have h72 : a.eval (.tmp 72) = .bool (e9 == 0) := hs 1 (by decide)
            have h80 : a.eval (.tmp 80) = .bool (decide (0 ≤ idxI RL vi)) := hs 9 (by decide)
            refine flow0 rfl ?_
            intro K hK
            unfold Oper.wp execOp
            simp only [h72, h80]
            simp [go_sem, hq9]
            exact hK _ _ ⟨Below.refl _ _, rfl, trivial⟩
        · intro f W hbW hT hp hd
          have hres : f 81 = .bool false := hT 10 (by decide)
          simp only [putV, List.foldl_cons, List.foldl_nil, Act.put, List.setIfInBounds_toArray, List.set_cons_succ, List.set_cons_zero, Exit.then]
          rw [hres]
          have Hend := Lib.hid hbW
          clear hT hp hd hres hbW
          go_wp2_with fail
          go_meet
          exact ⟨rfl, Hend.out⟩
      case' rest => skip
      obtain ⟨rfl, hbn⟩ := hcut
      obtain ⟨u5, h_⟩ : ∃ v, v = wc := ⟨_, rfl⟩
      subst h_
      replace HBr := Lib.hid (HBr.out.trans (hbn.mono HBr.out.size))
      clear hbn hq9
      go_wp2_with fail
      exact ⟨⟨i + 1, by go_num, by omega, HBr.out⟩, by simp [intOf]; omega⟩
    obtain rfl : N = i := by omega
    clear li
    replace HG := Lib.hid (HG.out.below hbx HG.out.lt)
    replace HH := Lib.hid (HH.out.below hbx HH.out.lt)
    replace HBN0 := Lib.hid (HBN0.out.below hbx HBN0.out.lt)
    replace HRd := Lib.hid (HRd.out.below hbx)
    replace HLd := Lib.hid (HLd.out.below hbx)
    replace HRL := Lib.hid (HRL.out.below hbx)
    replace HB := Lib.hid (HB.out.trans (hbx.mono HB.out.size))
    clear hbx
    obtain ⟨wo, hwo⟩ : ∃ wo, wo = wr := ⟨_, rfl⟩
    subst hwo
    clear HBr
    go_wp2_with fail
    clear g0
    go_loopw [15] (fun v15 wr => ∃ j : Nat, v15 = .int .i64 (j : Int) ∧ j ≤ M ∧ Below wo.heap.size wo wr) (fun v15 _ => M - (intOf v15).toNat)
    case atStart => exact ⟨0, rfl, by omega, Below.refl _ _⟩
    case round =>
      obtain ⟨j, rfl, hjM, hBr⟩ := hrel
      have HBr := Lib.hid hBr
      have g1 : wr.cell? ⟨BG, 1, none⟩ = some (.slice GB M gd) := by rw [(HG.out.below hBr HG.out.lt).cell]; rfl
      have hbx := hBr
      clear hBr
      by_cases lj : j < M
      · have d1 : decide ((j : Int) < (M : Int)) = true := decide_eq_true (by omega)
        replace HG := Lib.hid (HG.out.below hbx HG.out.lt)
        replace HH := Lib.hid (HH.out.below hbx HH.out.lt)
        replace HBN0 := Lib.hid (HBN0.out.below hbx HBN0.out.lt)
        replace HRd := Lib.hid (HRd.out.below hbx)
        replace HLd := Lib.hid (HLd.out.below hbx)
        replace HRL := Lib.hid (HRL.out.below hbx)
        replace HB := Lib.hid (HB.out.trans (hbx.mono HB.out.size))
        clear hbx
        obtain ⟨lb, lo, l, ea, hl, hcl⟩ := HLd.out.rd.flat_ lnV_len (by omega) lj
        subst ea
        have hgl : wr.rangeAt lb (lo + j * 8) (lnV l) := fun q v hv => by
          have := hcl q v hv
          rwa [← Nat.add_assoc] at this
        have Hgl := Lib.hid hgl
        have Hlj := Lib.hid hl
        have hn_ : Blk (wr.alloc (.cells (lnV ln0).toArray 53)) wr.heap.size 53 (lnV ln0).toArray := Blk.new _ _ _
        have Hn_ := Lib.hid hn_
        clear hgl hl hcl hn_
        go_upto_region 18 with (first | (refine wpList_load_mid rfl 53 (.tmp 92) rfl lb (lo + j * 8) rfl (lnV l) d53 Hgl.out hd53 hrow53 (by rw [lnV_len]; kernel_rfl) ?_) | (refine wpList_alloc0 rfl 53 rfl (lnV ln0).toArray _ i53 hi53 hz53 rfl ?_; simp only [Act.put, List.setIfInBounds_toArray, List.set_cons_succ, List.set_cons_zero]) | (refine wpList_store_row rfl 53 (.tmp 16) (.tmp 93) rfl wr.heap.size (lnV l).toArray rfl rfl 53 (lnV ln0).toArray Hn_.out (size53 _ rfl) rfl (ln_one _) ?_))
        obtain ⟨u3, hu3⟩ : ∃ v, v = (wr.alloc (.cells (lnV ln0).toArray 53)).setRow wr.heap.size (lnV l).toArray := ⟨_, rfl⟩
        have hb3 : Below wr.heap.size wr u3 := by rw [hu3]; exact Below.setRow ((Below.refl _ _).alloc (Nat.le_refl _) _) (Nat.le_refl _) _
        have HL3 := Lib.hid (show Blk u3 wr.heap.size 53 (lnV l).toArray by rw [hu3]; exact setRow_heap _ _ _ _ _ _ Hn_.out)
        rw [← hu3]
        clear hu3 Hn_ Hgl d1 g1
        obtain ⟨kb, hkb⟩ : ∃ v, v = wr.heap.size := ⟨_, rfl⟩
        rw [← hkb] at HL3 ⊢
        clear hkb
        replace HBr := Lib.hid (HBr.out.trans (hb3.mono HBr.out.size))
        replace HG := Lib.hid (HG.out.below hb3 HG.out.lt)
        replace HH := Lib.hid (HH.out.below hb3 HH.out.lt)
        replace HBN0 := Lib.hid (HBN0.out.below hb3 HBN0.out.lt)
        replace HRL := Lib.hid (HRL.out.below hb3)
        replace HB := Lib.hid (HB.out.trans (hb3.mono HB.out.size))
        clear hb3
        have Hln := Lib.hid (show u3.rangeAt kb 3 (ndV l.n) from fun q v hv => by
          rw [HL3.out.cell, List.getElem?_toArray]
          unfold lnV
          rw [List.getElem?_append_right (by simp)]
          simpa using hv)
        have Hnn := Lib.hid (Blk.range HBN0.out)
        have Hfi := Lib.hid (RFits_any l.n ND u3)
        go_wp2_with (first | (refine wpList_load_mid rfl 28 (.tmp 94) rfl kb 3 rfl (ndV l.n) d28 Hln.out hd28 hrow28 (by rw [ndV_len]; kernel_rfl) ?_) | (refine wpList_load_mid rfl 28 (.tmp 9) rfl BN0 0 rfl (ndV ND) d28 Hnn.out hd28 hrow28 (by rw [ndV_len]; kernel_rfl) ?_))
        refine Hfi.out.mono ?_
        rintro e u4 ⟨rfl, hb4⟩
        replace HBr := Lib.hid (HBr.out.trans (hb4.mono HBr.out.size))
        replace HL3 := Lib.hid (HL3.out.below hb4 HL3.out.lt)
        replace HH := Lib.hid (HH.out.below hb4 HH.out.lt)
        replace HRL := Lib.hid (HRL.out.below hb4)
        replace HB := Lib.hid (HB.out.trans (hb4.mono HB.out.size))
        clear hb4
        clear Hln Hnn Hfi
        have hstep := fun h1 h2 => reach_step Hvg.out Hok.out Hlj.out (lim := ND) h1 h2
        rw [← HRe.out] at hstep
        have Hstep := Lib.hid hstep
        have a0 : u4.cell? ⟨kb, 0, none⟩ = some (.int .i64 l.f) := by rw [HL3.out.cell]; rfl
        have Hrh := Lib.hid (Blk.range HH.out)
        have Hf1 := Lib.hid (Find_any A5 RL.length c5 none 0 0 RL l.f u4 HRL.out)
        obtain ⟨ft, hft⟩ : ∃ ft, ft = fitsB l.n ND := ⟨_, rfl⟩
        rw [← hft]
        have Hft := Lib.hid hft
        clear hstep hft
        cases ft with
        | false =>
          go_wp2_with fail
          exact ⟨⟨j + 1, by go_num, by omega, HBr.out⟩, by simp [intOf]; omega⟩
        | true =>
          go_wp2_with (refine wpList_load_mid_g (by first | rfl | simp [Region.wanted, yielded]) 33 (.tmp 12) rfl BH 0 rfl (grV A5 RL.length c5 none 0 0) d33 Hrh.out hd33 hrow33 (by rw [grV_len]; kernel_rfl) ?_)
          refine Hf1.out.mono ?_
          rintro e u5 ⟨rfl, hb5⟩
          replace HBr := Lib.hid (HBr.out.trans (hb5.mono HBr.out.size))
          replace HL3 := Lib.hid (HL3.out.below hb5 HL3.out.lt)
          replace HH := Lib.hid (HH.out.below hb5 HH.out.lt)
          replace HRL := Lib.hid (HRL.out.below hb5)
          replace HB := Lib.hid (HB.out.trans (hb5.mono HB.out.size))
          clear hb5
          clear Hrh Hf1 a0
          obtain ⟨x1, hx1⟩ : ∃ x1, x1 = idxI RL l.f := ⟨_, rfl⟩
          rw [← hx1]
          by_cases h1 : 0 ≤ x1
          rotate_left
          · have z1 : decide (0 ≤ x1) = false := decide_eq_false h1
            clear h1 hx1
            go_wp2_with fail
            exact ⟨⟨j + 1, by go_num, by omega, HBr.out⟩, by simp [intOf]; omega⟩
          have hmem : l.f ∈ RL := Decidable.byContradiction fun h => by have := (idxI_neg RL l.f).2 h; omega
          have hmt := Hstep.out Hft.out.symm hmem
          have a1 : u5.cell? ⟨kb, 1, none⟩ = some (.int .i64 l.t) := by rw [HL3.out.cell]; rfl
          have Hrh := Lib.hid (Blk.range HH.out)
          have Hf2 := Lib.hid (Find_any A5 RL.length c5 none 0 0 RL l.t u5 HRL.out)
          have hx2 : ¬ idxI RL l.t < 0 := fun h => (idxI_neg RL l.t).1 h hmt
          obtain ⟨x2, hx2_⟩ : ∃ x2, x2 = idxI RL l.t := ⟨_, rfl⟩
          rw [← hx2_] at hx2 Hf2
          have z1 : decide (0 ≤ x1) = true := decide_eq_true h1
          clear hmem hmt hx1 hx2_
          go_wp2_with (refine wpList_load_mid_g (by first | rfl | simp [Region.wanted, yielded]) 33 (.tmp 12) rfl BH 0 rfl (grV A5 RL.length c5 none 0 0) d33 Hrh.out hd33 hrow33 (by rw [grV_len]; kernel_rfl) ?_)
          refine Hf2.out.mono ?_
          rintro e u6 ⟨rfl, hb6⟩
          replace HBr := Lib.hid (HBr.out.trans (hb6.mono HBr.out.size))
          have z2 : decide (x2 < 0) = false := decide_eq_false (by omega)
          clear hb6 Hf2 Hrh a1
          go_wp2_with fail
          exact ⟨⟨j + 1, by go_num, by omega, HBr.out⟩, by simp [intOf]; omega⟩
      obtain rfl : M = j := by omega
      clear lj
      replace HG := Lib.hid (HG.out.below hbx HG.out.lt)
      replace HH := Lib.hid (HH.out.below hbx HH.out.lt)
      replace HRd := Lib.hid (HRd.out.below hbx)
      replace HRL := Lib.hid (HRL.out.below hbx)
      replace HB := Lib.hid (HB.out.trans (hbx.mono HB.out.size))
      clear hbx
      obtain ⟨wp, hwp⟩ : ∃ wp, wp = wr := ⟨_, rfl⟩
      subst hwp
      clear HBr HLd HBN0
      go_wp2_with fail
      clear g1
      go_loopw [17] (fun v17 wr => ∃ q : Nat, v17 = .int .i64 (q : Int) ∧ q ≤ RL.length ∧ Below wp.heap.size wp wr) (fun v17 _ => RL.length - (intOf v17).toNat)
      case atStart => exact ⟨0, rfl, by omega, Below.refl _ _⟩
      case round =>
        obtain ⟨q, rfl, hqK, hBr⟩ := hrel
        have HBr := Lib.hid hBr
        have hbx := hBr
        clear hBr
        by_cases lq : q < RL.length
        · have d1 : decide ((q : Int) < (RL.length : Int)) = true := decide_eq_true (by omega)
          go_upto_region 23 with fail
          clear d1
          replace HG := Lib.hid (HG.out.below hbx HG.out.lt)
          replace HRd := Lib.hid (HRd.out.below hbx)
          replace HRL := Lib.hid (HRL.out.below hbx)
          replace HB := Lib.hid (HB.out.trans (hbx.mono HB.out.size))
          clear hbx
          obtain ⟨rb, ro, x9, ea, hx9_, cx9_⟩ := HRL.out.at_ lq
          subst ea
          have hx9 : ¬ idxI VS x9 < 0 := fun h => (idxI_neg VS x9).1 h (reach_sub Hok.out (by rw [← HRe.out]; exact List.mem_of_getElem? hx9_))
          by_cases hq0 : q = 0
          · subst hq0
            have cx9 : wr.cell? ⟨rb, ro, none⟩ = some (.int .i64 x9) := cx9_
            have li9 := lq
            clear cx9_ hx9_ lq
            go_cut [140] from 118 to 140 (fun t140 wx => t140 = .bool false ∧ Below wr.heap.size wr wx)
            case first =>
              refine wp_region_flowF [118, 119, 120, 121, 122, 123, 124, 125, 126, 127, 128, 129, 130, 131, 132, 133, 134, 135, 136, 137, 138, 139, 140] [(Spec.is (.agg (grV (some ⟨vb, vo, none⟩) N gc GB M gd).toArray), false), (Spec.is (.slice (some ⟨rb, ro, none⟩) RL.length c5), false), (Spec.is (.int .i64 (0 : Int)), false), (Spec.is (.pointer (some ⟨rb, ro, none⟩)), false), (Spec.is (.int .i64 x9), false), (Spec.is (.int .i64 (idxI VS x9)), false), (Spec.is (.bool false), false), (Spec.is (.bool false), false), (Spec.is (.int .i64 (0 : Int)), false), (Spec.is (.bool false), false), (Spec.is (.bool false), false), (Spec.any, false), (Spec.any, false), (Spec.any, false), (Spec.any, false), (Spec.any, false), (Spec.any, false), (Spec.any, false), (Spec.any, false), (Spec.any, false), (Spec.any, false), (Spec.is (.bool false), false), (Spec.is (.bool false), false)] 148 (by kernel_rfl) rfl (by decide) rfl (by decide) (by kernel_rfl) ?_ ?_
              · refine ⟨?_, ?_, ?_, ?_, ?_, ?_, ?_, ?_, ?_, ?_, ?_, ?_, ?_, ?_, ?_, ?_, ?_, ?_, ?_, ?_, ?_, ?_, ?_, trivial⟩
                · intro a W hE hb hs
                  have h8 : a.eval (.tmp 8) = .pointer (some ⟨BG, 0, none⟩) := hb 8 (by decide)
                  refine flow0 rfl ?_
                  exact val_load_row 33 _ rfl BG 0 h8 (grV (some ⟨vb, vo, none⟩) N gc GB M gd) d33 (Blk.range (HG.out.below (ext_below hE) HG.out.lt)) hd33 hrow33 (by rw [grV_len]; kernel_rfl) ⟨rfl, trivial⟩
                · intro a W hE hb hs
                  have h11 : a.eval (.tmp 11) = .slice (some ⟨rb, ro, none⟩) RL.length c5 := hb 11 (by decide)
                  refine flow0 rfl ?_
                  exact val_move _ rfl _ h11 ⟨rfl, trivial⟩
                · intro a W hE hb hs
                  have h17 : a.eval (.tmp 17) = .int .i64 (0 : Int) := hb 17 (by decide)
                  refine flow0 rfl ?_
                  exact val_move _ rfl _ h17 ⟨rfl, trivial⟩
                · intro a W hE hb hs
                  have h119 : a.eval (.tmp 119) = .slice (some ⟨rb, ro, none⟩) RL.length c5 := hs 1 (by decide)
                  have h120 : a.eval (.tmp 120) = .int .i64 (0 : Int) := hs 2 (by decide)
                  refine flow0 rfl ?_
                  intro K hK
                  unfold Oper.wp execOp
                  simp only [h119, h120]
                  simp [go_sem, li9]
                  exact hK _ _ ⟨Below.refl _ _, rfl, trivial⟩
                · intro a W hE hb hs
                  have h121 : a.eval (.tmp 121) = .pointer (some ⟨rb, ro, none⟩) := hs 3 (by decide)
                  refine flow0 rfl ?_
                  have c0 : W.cell? ⟨rb, ro, none⟩ = some (.int .i64 x9) := ((ext_below hE).cell (World.block_lt_of_cell? _ _ cx9)).trans cx9
                  intro K hK
                  unfold Oper.wp execOp
                  simp only [h121]
                  simp [go_sem, c0]
                  exact hK _ _ ⟨Below.refl _ _, rfl, trivial⟩
                · intro a W hE hb hs
                  have h118 : a.eval (.tmp 118) = .agg (grV (some ⟨vb, vo, none⟩) N gc GB M gd).toArray := hs 0 (by decide)
                  have h122 : a.eval (.tmp 122) = .int .i64 x9 := hs 4 (by decide)
                  refine flow0 rfl ?_
                  exact val_call 25 _ _ rfl (by kernel_rfl) [.agg (grV (some ⟨vb, vo, none⟩) N gc GB M gd).toArray, .int .i64 x9] (by show [a.eval (.tmp 118), a.eval (.tmp 122)] = _; rw [h118, h122]) ((Find_any (some ⟨vb, vo, none⟩) N gc GB M gd VS x9 W (HRd.out.rd.below (ext_below hE))).mono (by rintro e W' ⟨rfl, hb⟩; exact ⟨_, rfl, hb, rfl, trivial⟩))
                · intro a W hE hb hs
                  have h123 : a.eval (.tmp 123) = .int .i64 (idxI VS x9) := hs 5 (by decide)
                  refine flow0 rfl ?_
                  intro K hK
                  unfold Oper.wp execOp
                  simp only [h123, BigFrame.eval_const]
                  simp [go_sem, hx9]
                  exact hK _ _ ⟨Below.refl _ _, rfl, trivial⟩
                · intro a W hE hb hs
                  have h124 : a.eval (.tmp 124) = .bool false := hs 6 (by decide)
                  refine flow0 rfl ?_
                  exact val_move _ rfl _ h124 ⟨rfl, trivial⟩
                · intro a W hE hb hs
                  have h125 : a.eval (.tmp 125) = .bool false := hs 7 (by decide)
                  have h17 : a.eval (.tmp 17) = .int .i64 (0 : Int) := hb 17 (by decide)
                  refine flowY rfl rfl h125 ?_
                  exact val_move _ rfl _ h17 ⟨rfl, trivial⟩
                · intro a W hE hb hs
                  have h125 : a.eval (.tmp 125) = .bool false := hs 7 (by decide)
                  have h126 : a.eval (.tmp 126) = .int .i64 (0 : Int) := hs 8 (by decide)
                  refine flowY rfl rfl h125 ?_
                  intro K hK
                  unfold Oper.wp execOp
                  simp only [h126, BigFrame.eval_const]
                  simp [go_sem]
                  exact hK _ _ ⟨Below.refl _ _, rfl, trivial⟩
                · intro a W hE hb hs
                  have h125 : a.eval (.tmp 125) = .bool false := hs 7 (by decide)
                  have h127 : a.eval (.tmp 127) = .bool false := hs 9 (by decide)
                  refine flowY rfl rfl h125 ?_
                  exact val_move _ rfl _ h127 ⟨rfl, trivial⟩
                · intro a W hE hb hs
                  have h128 : a.eval (.tmp 128) = .bool false := hs 10 (by decide)
                  exact flowN rfl rfl h128 (by decide) ⟨trivial, rfl⟩
                · intro a W hE hb hs
                  have h128 : a.eval (.tmp 128) = .bool false := hs 10 (by decide)
                  exact flowN rfl rfl h128 (by decide) ⟨trivial, rfl⟩
                · intro a W hE hb hs
                  have h128 : a.eval (.tmp 128) = .bool false := hs 10 (by decide)
                  exact flowN rfl rfl h128 (by decide) ⟨trivial, rfl⟩
                · intro a W hE hb hs
                  have h128 : a.eval (.tmp 128) = .bool false := hs 10 (by decide)
                  exact flowN rfl rfl h128 (by decide) ⟨trivial, rfl⟩
                · intro a W hE hb hs
                  have h128 : a.eval (.tmp 128) = .bool false := hs 10 (by decide)
                  exact flowN rfl rfl h128 (by decide) ⟨trivial, rfl⟩
                · intro a W hE hb hs
                  have h128 : a.eval (.tmp 128) = .bool false := hs 10 (by decide)
                  exact flowN rfl rfl h128 (by decide) ⟨trivial, rfl⟩
                · intro a W hE hb hs
                  have h128 : a.eval (.tmp 128) = .bool false := hs 10 (by decide)
                  exact flowN rfl rfl h128 (by decide) ⟨trivial, rfl⟩
                · intro a W hE hb hs
                  have h128 : a.eval (.tmp 128) = .bool false := hs 10 (by decide)
                  exact flowN rfl rfl h128 (by decide) ⟨trivial, rfl⟩
                · intro a W hE hb hs
                  have h128 : a.eval (.tmp 128) = .bool false := hs 10 (by decide)
                  exact flowN rfl rfl h128 (by decide) ⟨trivial, rfl⟩
                · intro a W hE hb hs
                  have h128 : a.eval (.tmp 128) = .bool false := hs 10 (by decide)
                  exact flowN rfl rfl h128 (by decide) ⟨trivial, rfl⟩
                · intro a W hE hb hs
                  have h125 : a.eval (.tmp 125) = .bool false := hs 7 (by decide)
                  have h128 : a.eval (.tmp 128) = .bool false := hs 10 (by decide)
                  refine flowY rfl rfl h125 ?_
                  exact val_pick _ _ _ rfl false h128 _ (by rw [if_neg (by decide)]; exact rfl) ⟨rfl, trivial⟩
                · intro a W hE hb hs
                  have h125 : a.eval (.tmp 125) = .bool false := hs 7 (by decide)
                  have h139 : a.eval (.tmp 139) = .bool false := hs 21 (by decide)
                  refine flow0 rfl ?_
                  exact val_pick _ _ _ rfl false h125 _ (by rw [if_neg (by decide)]; exact h139) ⟨rfl, trivial⟩
              · intro f W hbW hT hp hd
                have hres : f 140 = .bool false := hT 22 (by decide)
                simp only [putV, List.foldl_cons, List.foldl_nil, Act.put, List.setIfInBounds_toArray, List.set_cons_succ, List.set_cons_zero, Exit.then]
                rw [hres]
                have Hend := Lib.hid hbW
                clear hT hp hd hres hbW
                go_wp2_with fail
                go_meet
                exact ⟨rfl, Hend.out⟩
            case' rest => skip
            obtain ⟨rfl, hbn⟩ := hcut
            obtain ⟨u5, h_⟩ : ∃ v, v = wc := ⟨_, rfl⟩
            subst h_
            replace HBr := Lib.hid (HBr.out.trans (hbn.mono HBr.out.size))
            clear hbn
            go_wp2_with fail
            exact ⟨⟨1, by go_num, by omega, HBr.out⟩, by simp [intOf]; omega⟩
          · obtain ⟨i1, hi1⟩ : ∃ i1, q = i1 + 1 := ⟨q - 1, by omega⟩
            obtain ⟨_, _, y9, ea, hy9_, cy9_⟩ := HRL.out.at_ (show i1 < RL.length by omega)
            cases ea
            have hlt9 : ¬ x9 ≤ y9 := by have := reach_inc Hvg.out Hok.out (i := i1) (j := q) (by omega) (by rw [← HRe.out]; exact hy9_) (by rw [← HRe.out]; exact hx9_); omega
            have cx9 : wr.cell? ⟨rb, ro + q, none⟩ = some (.int .i64 x9) := cx9_
            have cy9 : wr.cell? ⟨rb, ro + i1, none⟩ = some (.int .i64 y9) := cy9_
            have li9 := lq
            have li8 : i1 < RL.length := by omega
            have hq9 : 0 < q := by omega
            have wr9 : IntKind.i64.wrap ((q : Int) - 1) = (i1 : Int) := (IntWalk.i64_left _).trans (show wrap64 ((q : Int) - 1) = (i1 : Int) by unfold wrap64; omega)
            have Wr9 := Lib.hid wr9
            clear wr9 hi1
            clear cx9_ hx9_ cy9_ hy9_ lq
            go_cut [140] from 118 to 140 (fun t140 wx => t140 = .bool false ∧ Below wr.heap.size wr wx)
            case first =>
              have wr9 := Wr9.out
              refine wp_region_flowF [118, 119, 120, 121, 122, 123, 124, 125, 126, 127, 128, 129, 130, 131, 132, 133, 134, 135, 136, 137, 138, 139, 140] [(Spec.is (.agg (grV (some ⟨vb, vo, none⟩) N gc GB M gd).toArray), false), (Spec.is (.slice (some ⟨rb, ro, none⟩) RL.length c5), false), (Spec.is (.int .i64 (q : Int)), false), (Spec.is (.pointer (some ⟨rb, ro + q, none⟩)), false), (Spec.is (.int .i64 x9), false), (Spec.is (.int .i64 (idxI VS x9)), false), (Spec.is (.bool false), false), (Spec.is (.bool false), false), (Spec.is (.int .i64 (q : Int)), false), (Spec.is (.bool true), false), (Spec.is (.bool true), false), (Spec.is (.slice (some ⟨rb, ro, none⟩) RL.length c5), false), (Spec.is (.int .i64 (q : Int)), false), (Spec.is (.pointer (some ⟨rb, ro + q, none⟩)), false), (Spec.is (.int .i64 x9), false), (Spec.is (.slice (some ⟨rb, ro, none⟩) RL.length c5), false), (Spec.is (.int .i64 (q : Int)), false), (Spec.is (.int .i64 (i1 : Int)), false), (Spec.is (.pointer (some ⟨rb, ro + i1, none⟩)), false), (Spec.is (.int .i64 y9), false), (Spec.is (.bool false), false), (Spec.is (.bool false), false), (Spec.is (.bool false), false)] 148 (by kernel_rfl) rfl (by decide) rfl (by decide) (by kernel_rfl) ?_ ?_
              · refine ⟨?_, ?_, ?_, ?_, ?_, ?_, ?_, ?_, ?_, ?_, ?_, ?_, ?_, ?_, ?_, ?_, ?_, ?_, ?_, ?_, ?_, ?_, ?_, trivial⟩
                · intro a W hE hb hs
                  have h8 : a.eval (.tmp 8) = .pointer (some ⟨BG, 0, none⟩) := hb 8 (by decide)
                  refine flow0 rfl ?_
                  exact val_load_row 33 _ rfl BG 0 h8 (grV (some ⟨vb, vo, none⟩) N gc GB M gd) d33 (Blk.range (HG.out.below (ext_below hE) HG.out.lt)) hd33 hrow33 (by rw [grV_len]; kernel_rfl) ⟨rfl, trivial⟩
                · intro a W hE hb hs
                  have h11 : a.eval (.tmp 11) = .slice (some ⟨rb, ro, none⟩) RL.length c5 := hb 11 (by decide)
                  refine flow0 rfl ?_
                  exact val_move _ rfl _ h11 ⟨rfl, trivial⟩
                · intro a W hE hb hs
                  have h17 : a.eval (.tmp 17) = .int .i64 (q : Int) := hb 17 (by decide)
                  refine flow0 rfl ?_
                  exact val_move _ rfl _ h17 ⟨rfl, trivial⟩
                · intro a W hE hb hs
                  have h119 : a.eval (.tmp 119) = .slice (some ⟨rb, ro, none⟩) RL.length c5 := hs 1 (by decide)
                  have h120 : a.eval (.tmp 120) = .int .i64 (q : Int) := hs 2 (by decide)
                  refine flow0 rfl ?_
                  intro K hK
                  unfold Oper.wp execOp
                  simp only [h119, h120]
                  simp [go_sem, li9]
                  exact hK _ _ ⟨Below.refl _ _, rfl, trivial⟩
                · intro a W hE hb hs
                  have h121 : a.eval (.tmp 121) = .pointer (some ⟨rb, ro + q, none⟩) := hs 3 (by decide)
                  refine flow0 rfl ?_
                  have c0 : W.cell? ⟨rb, ro + q, none⟩ = some (.int .i64 x9) := ((ext_below hE).cell (World.block_lt_of_cell? _ _ cx9)).trans cx9
                  intro K hK
                  unfold Oper.wp execOp
                  simp only [h121]
                  simp [go_sem, c0]
                  exact hK _ _ ⟨Below.refl _ _, rfl, trivial⟩
                · intro a W hE hb hs
                  have h118 : a.eval (.tmp 118) = .agg (grV (some ⟨vb, vo, none⟩) N gc GB M gd).toArray := hs 0 (by decide)
                  have h122 : a.eval (.tmp 122) = .int .i64 x9 := hs 4 (by decide)
                  refine flow0 rfl ?_
                  exact val_call 25 _ _ rfl (by kernel_rfl) [.agg (grV (some ⟨vb, vo, none⟩) N gc GB M gd).toArray, .int .i64 x9] (by show [a.eval (.tmp 118), a.eval (.tmp 122)] = _; rw [h118, h122]) ((Find_any (some ⟨vb, vo, none⟩) N gc GB M gd VS x9 W (HRd.out.rd.below (ext_below hE))).mono (by rintro e W' ⟨rfl, hb⟩; exact ⟨_, rfl, hb, rfl, trivial⟩))
                · intro a W hE hb hs
                  have h123 : a.eval (.tmp 123) = .int .i64 (idxI VS x9) := hs 5 (by decide)
                  refine flow0 rfl ?_
                  intro K hK
                  unfold Oper.wp execOp
                  simp only [h123, BigFrame.eval_const]
                  simp [go_sem, hx9]
                  exact hK _ _ ⟨Below.refl _ _, rfl, trivial⟩
                · intro a W hE hb hs
                  have h124 : a.eval (.tmp 124) = .bool false := hs 6 (by decide)
                  refine flow0 rfl ?_
                  exact val_move _ rfl _ h124 ⟨rfl, trivial⟩
                · intro a W hE hb hs
                  have h125 : a.eval (.tmp 125) = .bool false := hs 7 (by decide)
                  have h17 : a.eval (.tmp 17) = .int .i64 (q : Int) := hb 17 (by decide)
                  refine flowY rfl rfl h125 ?_
                  exact val_move _ rfl _ h17 ⟨rfl, trivial⟩
                · intro a W hE hb hs
                  have h125 : a.eval (.tmp 125) = .bool false := hs 7 (by decide)
                  have h126 : a.eval (.tmp 126) = .int .i64 (q : Int) := hs 8 (by decide)
                  refine flowY rfl rfl h125 ?_
                  intro K hK
                  unfold Oper.wp execOp
                  simp only [h126, BigFrame.eval_const]
                  simp [go_sem, hq9]
                  exact hK _ _ ⟨Below.refl _ _, rfl, trivial⟩
                · intro a W hE hb hs
                  have h125 : a.eval (.tmp 125) = .bool false := hs 7 (by decide)
                  have h127 : a.eval (.tmp 127) = .bool true := hs 9 (by decide)
                  refine flowY rfl rfl h125 ?_
                  exact val_move _ rfl _ h127 ⟨rfl, trivial⟩
                · intro a W hE hb hs
                  have h128 : a.eval (.tmp 128) = .bool true := hs 10 (by decide)
                  have h11 : a.eval (.tmp 11) = .slice (some ⟨rb, ro, none⟩) RL.length c5 := hb 11 (by decide)
                  refine flowY rfl rfl h128 ?_
                  exact val_move _ rfl _ h11 ⟨rfl, trivial⟩
                · intro a W hE hb hs
                  have h128 : a.eval (.tmp 128) = .bool true := hs 10 (by decide)
                  have h17 : a.eval (.tmp 17) = .int .i64 (q : Int) := hb 17 (by decide)
                  refine flowY rfl rfl h128 ?_
                  exact val_move _ rfl _ h17 ⟨rfl, trivial⟩
                · intro a W hE hb hs
                  have h128 : a.eval (.tmp 128) = .bool true := hs 10 (by decide)
                  have h129 : a.eval (.tmp 129) = .slice (some ⟨rb, ro, none⟩) RL.length c5 := hs 11 (by decide)
                  have h130 : a.eval (.tmp 130) = .int .i64 (q : Int) := hs 12 (by decide)
                  refine flowY rfl rfl h128 ?_
                  intro K hK
                  unfold Oper.wp execOp
                  simp only [h129, h130]
                  simp [go_sem, li9]
                  exact hK _ _ ⟨Below.refl _ _, rfl, trivial⟩
                · intro a W hE hb hs
                  have h128 : a.eval (.tmp 128) = .bool true := hs 10 (by decide)
                  have h131 : a.eval (.tmp 131) = .pointer (some ⟨rb, ro + q, none⟩) := hs 13 (by decide)
                  refine flowY rfl rfl h128 ?_
                  have c0 : W.cell? ⟨rb, ro + q, none⟩ = some (.int .i64 x9) := ((ext_below hE).cell (World.block_lt_of_cell? _ _ cx9)).trans cx9
                  intro K hK
                  unfold Oper.wp execOp
                  simp only [h131]
                  simp [go_sem, c0]
                  exact hK _ _ ⟨Below.refl _ _, rfl, trivial⟩
                · intro a W hE hb hs
                  have h128 : a.eval (.tmp 128) = .bool true := hs 10 (by decide)
                  have h11 : a.eval (.tmp 11) = .slice (some ⟨rb, ro, none⟩) RL.length c5 := hb 11 (by decide)
                  refine flowY rfl rfl h128 ?_
                  exact val_move _ rfl _ h11 ⟨rfl, trivial⟩
                · intro a W hE hb hs
                  have h128 : a.eval (.tmp 128) = .bool true := hs 10 (by decide)
                  have h17 : a.eval (.tmp 17) = .int .i64 (q : Int) := hb 17 (by decide)
                  refine flowY rfl rfl h128 ?_
                  exact val_move _ rfl _ h17 ⟨rfl, trivial⟩
                · intro a W hE hb hs
                  have h128 : a.eval (.tmp 128) = .bool true := hs 10 (by decide)
                  have h134 : a.eval (.tmp 134) = .int .i64 (q : Int) := hs 16 (by decide)
                  refine flowY rfl rfl h128 ?_
                  intro K hK
                  unfold Oper.wp execOp
                  simp only [h134, BigFrame.eval_const]
                  simp [go_sem, wr9]
                  exact hK _ _ ⟨Below.refl _ _, rfl, trivial⟩
                · intro a W hE hb hs
                  have h128 : a.eval (.tmp 128) = .bool true := hs 10 (by decide)
                  have h133 : a.eval (.tmp 133) = .slice (some ⟨rb, ro, none⟩) RL.length c5 := hs 15 (by decide)
                  have h135 : a.eval (.tmp 135) = .int .i64 (i1 : Int) := hs 17 (by decide)
                  refine flowY rfl rfl h128 ?_
                  intro K hK
                  unfold Oper.wp execOp
                  simp only [h133, h135]
                  simp [go_sem, li8]
                  exact hK _ _ ⟨Below.refl _ _, rfl, trivial⟩
                · intro a W hE hb hs
                  have h128 : a.eval (.tmp 128) = .bool true := hs 10 (by decide)
                  have h136 : a.eval (.tmp 136) = .pointer (some ⟨rb, ro + i1, none⟩) := hs 18 (by decide)
                  refine flowY rfl rfl h128 ?_
                  have c0 : W.cell? ⟨rb, ro + i1, none⟩ = some (.int .i64 y9) := ((ext_below hE).cell (World.block_lt_of_cell? _ _ cy9)).trans cy9
                  intro K hK
                  unfold Oper.wp execOp
                  simp only [h136]
                  simp [go_sem, c0]
                  exact hK _ _ ⟨Below.refl _ _, rfl, trivial⟩
                · intro a W hE hb hs
                  have h128 : a.eval (.tmp 128) = .bool true := hs 10 (by decide)
                  have h132 : a.eval (.tmp 132) = .int .i64 x9 := hs 14 (by decide)
                  have h137 : a.eval (.tmp 137) = .int .i64 y9 := hs 19 (by decide)
                  refine flowY rfl rfl h128 ?_
                  intro K hK
                  unfold Oper.wp execOp
                  simp only [h132, h137]
                  simp [go_sem, hlt9]
                  exact hK _ _ ⟨Below.refl _ _, rfl, trivial⟩
                · intro a W hE hb hs
                  have h125 : a.eval (.tmp 125) = .bool false := hs 7 (by decide)
                  have h128 : a.eval (.tmp 128) = .bool true := hs 10 (by decide)
                  have h138 : a.eval (.tmp 138) = .bool false := hs 20 (by decide)
                  refine flowY rfl rfl h125 ?_
                  exact val_pick _ _ _ rfl true h128 _ (by rw [if_pos rfl]; exact h138) ⟨rfl, trivial⟩
                · intro a W hE hb hs
                  have h125 : a.eval (.tmp 125) = .bool false := hs 7 (by decide)
                  have h139 : a.eval (.tmp 139) = .bool false := hs 21 (by decide)
                  refine flow0 rfl ?_
                  exact val_pick _ _ _ rfl false h125 _ (by rw [if_neg (by decide)]; exact h139) ⟨rfl, trivial⟩
              · intro f W hbW hT hp hd
                have hres : f 140 = .bool false := hT 22 (by decide)
                simp only [putV, List.foldl_cons, List.foldl_nil, Act.put, List.setIfInBounds_toArray, List.set_cons_succ, List.set_cons_zero, Exit.then]
                rw [hres]
                have Hend := Lib.hid hbW
                clear hT hp hd hres hbW
                go_wp2_with fail
                go_meet
                exact ⟨rfl, Hend.out⟩
            case' rest => skip
            obtain ⟨rfl, hbn⟩ := hcut
            obtain ⟨u5, h_⟩ : ∃ v, v = wc := ⟨_, rfl⟩
            subst h_
            replace HBr := Lib.hid (HBr.out.trans (hbn.mono HBr.out.size))
            clear hbn
            go_wp2_with fail
            exact ⟨⟨q + 1, by go_num, by omega, HBr.out⟩, by simp [intOf]; omega⟩
        · have d1 : decide ((q : Int) < (RL.length : Int)) = false := decide_eq_false (by omega)
          have d2 : decide (q < RL.length) = false := decide_eq_false lq
          replace HH := Lib.hid (HH.out.below hbx HH.out.lt)
          replace HRL := Lib.hid (HRL.out.below hbx)
          replace HB := Lib.hid (HB.out.trans (hbx.mono HB.out.size))
          clear hbx
          have Hrh := Lib.hid (Blk.range HH.out)
          have Hf1 := Lib.hid (Find_any A5 RL.length c5 none 0 0 RL va wr HRL.out)
          have hx1 : 0 ≤ idxI RL va := by
            have h1 : va ∈ RL := by rw [HRe.out]; exact reach_self Hok.out Hva.out
            rcases Int.lt_or_le (idxI RL va) 0 with h3 | h3
            · exact absurd h1 ((idxI_neg RL va).1 h3)
            · exact h3
          obtain ⟨x1, hx1_⟩ : ∃ x1, x1 = idxI RL va := ⟨_, rfl⟩
          rw [← hx1_] at hx1 Hf1
          clear lq hx1_
          go_wp2_with (refine wpList_load_mid rfl 33 (.tmp 12) rfl BH 0 rfl (grV A5 RL.length c5 none 0 0) d33 Hrh.out hd33 hrow33 (by rw [grV_len]; kernel_rfl) ?_)
          refine Hf1.out.mono ?_
          rintro e u6 ⟨rfl, hb6⟩
          have HBz := Lib.hid (HB.out.trans (hb6.mono HB.out.size))
          have z2 : decide (0 ≤ x1) = true := decide_eq_true hx1
          clear hb6 Hf1 Hrh d1 d2
          go_wp2_with fail
          go_ret
          exact ⟨rfl, HBz.out⟩
end Go.Proofs.Ytgelchbbknckcaa
