/- The law GraphLimits. -/
import Derived.Test.YtgelchbbknckcaaG20
namespace Go.Proofs.Ytgelchbbknckcaa
open Go.RowKit Go.Sort

theorem need_bd (a b c : UInt8) : 0 ≤ (needN a b c).s ∧ (needN a b c).s ≤ 7 ∧ 0 ≤ (needN a b c).u ∧ (needN a b c).u ≤ 7 ∧ 0 ≤ (needN a b c).r ∧ (needN a b c).r ≤ 7 ∧ 0 ≤ (needN a b c).e ∧ (needN a b c).e ≤ 7 ∧ 0 ≤ (needN a b c).o ∧ (needN a b c).o ≤ 7 := by
  have ha := a.toNat_lt; have hb := b.toNat_lt; have hc := c.toNat_lt
  unfold needN
  simp only
  omega
theorem lks_mono {vs : List Int} {ls : List Ln} {few many : Nd} (hm : ∀ n, fitsB n few = true → fitsB n many = true) : ∀ (k u t d : Nat), (lksN vs few ls)[k]? = some (u, t, d, true) → (lksN vs many ls)[k]? = some (u, t, d, true) := fun k u t d h => by
  unfold lksN at h ⊢
  rw [List.getElem?_map] at h ⊢
  cases e : ls[k]? with
  | none => rw [e] at h; cases h
  | some l =>
    rw [e] at h
    simp only [Option.map_some, Option.some.injEq, lkN, Prod.mk.injEq] at h ⊢
    exact ⟨h.1, h.2.1, h.2.2.1, hm _ h.2.2.2⟩
theorem limits_path {vs : List Int} {ls : List Ln} {few many : Nd} {a b : Int} (hv : Vg vs ls) (hm : ∀ n, fitsB n few = true → fitsB n many = true) (hp : PathOk vs ls few a b) (hq : PathOk vs ls many a b) (he : (pathC vs ls few a b).2.2 = 0) : (pathC vs ls many a b).2.2 = 0 ∧ (pathC vs ls many a b).2.1 ≤ (pathC vs ls few a b).2.1 := by
  rcases hp with ⟨_, _, _, h⟩ | ⟨s, t, hs, ht, ⟨_, _, _, h⟩ | ⟨w, hw, _, _, hk, _⟩⟩
  · omega
  · omega
  have hw2 := hw.1.mono (lks_mono hm)
  rcases hq with ⟨h, _⟩ | ⟨s', t', hs', ht', ⟨h, _⟩ | ⟨y, hy, _, _, hk', he'⟩⟩
  · rcases h with h | h
    · exact absurd (List.mem_of_getElem? hs) h
    · exact absurd (List.mem_of_getElem? ht) h
  · obtain rfl := hv.uniq hs hs'
    obtain rfl := hv.uniq ht ht'
    exact absurd hw2 (h _)
  · obtain rfl := hv.uniq hs hs'
    obtain rfl := hv.uniq ht ht'
    have := (hy.2 _ hw2).cost
    refine ⟨he', ?_⟩
    rw [hk, hk']
    omega
theorem reachL_mono : ∀ {vs : List Int} {bs cs : List (Option Gr.Wy)}, bs.length = cs.length → (∀ (k : Nat) (w : Gr.Wy), bs[k]? = some (some w) → ∃ x, cs[k]? = some (some x)) → (reachL vs bs).length ≤ (reachL vs cs).length
  | [], bs, cs, _, _ => by simp [reachL]
  | _ :: _, [], cs, _, _ => by simp [reachL]
  | _ :: _, _ :: _, [], h, _ => by simp at h
  | v :: vs, b :: bs, c :: cs, hl, h => by
    have ih := reachL_mono (vs := vs) (bs := bs) (cs := cs) (by simpa using hl) (fun k w hk => by simpa using h (k + 1) w (by simpa using hk))
    cases b with
    | none => cases c <;> simp only [reachL, List.length_cons] <;> omega
    | some w =>
      obtain ⟨x, hx⟩ := h 0 w rfl
      simp at hx
      subst hx
      simp only [reachL, List.length_cons]; omega
theorem limits_reach {vs : List Int} {ls : List Ln} {few many : Nd} {a : Int} (hm : ∀ n, fitsB n few = true → fitsB n many = true) (hp : ReachOk vs ls few a) (hq : ReachOk vs ls many a) : (reachC vs ls few a).length ≤ (reachC vs ls many a).length := by
  obtain ⟨bs, hb, e1⟩ := hp
  obtain ⟨cs, hc, e2⟩ := hq
  rw [e1, e2]
  refine reachL_mono (by rw [hb.1, hc.1]) (fun k w hk => ?_)
  by_cases ha : a ∈ vs
  · obtain ⟨s, _, _, hs⟩ := idx_lt ha
    have h1 := (hb.2.1 s hs k _ hk).1
    have hkl : k < cs.length := by rw [hc.1, ← hb.1]; exact (List.getElem?_eq_some_iff.1 hk).1
    have h2 := (hc.2.1 s hs k _ (List.getElem?_eq_getElem hkl)).1
    cases e : cs[k] with
    | none => rw [e] at h2; exact absurd (h1.1.mono (lks_mono hm)) (h2 w)
    | some x => exact ⟨x, by rw [List.getElem?_eq_getElem hkl, e]⟩
  · have := hb.2.2 ha _ (List.mem_of_getElem? hk)
    cases this

def spRe (vs : List Int) (ls : List Ln) (lim : Nd) (fr : Int) : Spec := ⟨fun v _ => ∃ (A : Option Addr) (c : Nat), v = .slice A (reachC vs ls lim fr).length c ∧ ReachOk vs ls lim fr, fun _ _ _ h _ => h⟩
def spLe (vs : List Int) (ls : List Ln) (lim : Nd) (fr : Int) : Spec := ⟨fun v _ => v = .int .i64 ((reachC vs ls lim fr).length : Int) ∧ ReachOk vs ls lim fr, fun _ _ _ h _ => h⟩

set_option maxRecDepth 100000 in
set_option maxHeartbeats 4000000 in
theorem GraphLimits_any (A : Option Addr) (n c : Nat) (B : Option Addr) (m d : Nat) (xs : List UInt8) (ys : List R6) (m0 m1 m2 n0 n1 n2 : UInt8) (w : World) (hr : Rd w 1 A n (xs.map byteV)) (hl : Rd w 6 B m (ys.flatMap r6V)) :
    Calls Try.prog 8 #[.agg (grV A n c B m d).toArray, .agg #[byteV m0, byteV m1, byteV m2], .agg #[byteV n0, byteV n1, byteV n2]] w fun e w' => e = .returned (.bool true) ∧ Below w.heap.size w w' := by
  obtain ⟨i28, hi28, hz28, hs28, hy28⟩ := info_parts info28
  obtain ⟨i33, hi33, hz33, hs33, hy33⟩ := info_parts info33
  obtain ⟨i44, hi44, hz44, hs44, hy44⟩ := info_parts info44
  obtain ⟨i53, hi53, hz53, hs53, hy53⟩ := info_parts info53
  obtain ⟨d25, hd25, hrow25⟩ := und25
  obtain ⟨d28, hd28, hrow28⟩ := und28
  obtain ⟨d33, hd33, hrow33⟩ := und33
  obtain ⟨d44, hd44, hrow44⟩ := und44
  obtain ⟨d53, hd53, hrow53⟩ := und53
  have hxl := hr.len1
  obtain ⟨N, hN⟩ : ∃ N, N = min n 7 := ⟨_, rfl⟩
  obtain ⟨M, hM⟩ : ∃ M, M = madeM xs ys := ⟨_, rfl⟩
  obtain ⟨VS, hVS⟩ : ∃ VS, VS = verN xs (min n 7) := ⟨_, rfl⟩
  obtain ⟨LS, hLS⟩ : ∃ LS, LS = madeL xs ys := ⟨_, rfl⟩
  obtain ⟨ND, hND⟩ : ∃ x, x = needN m0 m1 m2 := ⟨_, rfl⟩
  obtain ⟨NF, hNF⟩ : ∃ x, x = needN n0 n1 n2 := ⟨_, rfl⟩
  have hvg : Vg VS LS := by rw [hVS, hLS]; exact made_vg xs ys hxl
  have hbd : ∀ x ∈ VS, 1 ≤ x ∧ x ≤ 21 := fun x hx => by rw [hVS] at hx; have := verN_bd hx; omega
  have hVl : VS.length = N := by rw [hVS, hN, verN_len]
  have hLl : LS.length = M := by rw [hLS, hM, madeL_len]
  have hM14 : M ≤ 14 := by rw [hM]; exact madeM_le xs ys
  have Hr := Lib.hid hr
  have Hl := Lib.hid hl
  have Hvg := Lib.hid hvg
  have Hbd := Lib.hid hbd
  have HVl := Lib.hid hVl
  have HLl := Lib.hid hLl
  have HNe := Lib.hid hN
  have hN7 : N ≤ 7 := by omega
  have hMade : ∀ W : World, Rd W 1 A n (xs.map byteV) → Rd W 6 B m (ys.flatMap r6V) → Calls Try.prog 12 #[.agg (grV A n c B m d).toArray] W fun e w' => (∃ A' c' B' d', e = .returned (.agg (grV A' N c' B' M d').toArray) ∧ TRd w' 3 1 A' N (VS.map intV) ∧ TRd w' 53 8 B' M (LS.flatMap lnV)) ∧ Below W.heap.size W w' := fun W h1 h2 => by
    rw [hN, hM, hVS, hLS]; exact Made_C A n c B m d xs ys W h1 h2
  have HMade := Lib.hid hMade
  have hNb : (0 ≤ ND.s ∧ ND.s ≤ 7 ∧ 0 ≤ ND.u ∧ ND.u ≤ 7 ∧ 0 ≤ ND.r ∧ ND.r ≤ 7 ∧ 0 ≤ ND.e ∧ ND.e ≤ 7 ∧ 0 ≤ ND.o ∧ ND.o ≤ 7) ∧ 0 ≤ NF.s ∧ NF.s ≤ 7 ∧ 0 ≤ NF.u ∧ NF.u ≤ 7 ∧ 0 ≤ NF.r ∧ NF.r ≤ 7 ∧ 0 ≤ NF.e ∧ NF.e ≤ 7 ∧ 0 ≤ NF.o ∧ NF.o ≤ 7 := by rw [hND, hNF]; exact ⟨need_bd _ _ _, need_bd _ _ _⟩
  have HNb := Lib.hid hNb
  clear hNb
  have hHNeed : ∀ W : World, Calls Try.prog 13 #[.agg #[byteV m0, byteV m1, byteV m2]] W fun e w' => e = .returned (.agg (ndV ND).toArray) ∧ Below W.heap.size W w' := fun W => by rw [hND]; exact Need_any m0 m1 m2 W
  have HNeed := Lib.hid hHNeed
  have hHNeedF : ∀ W : World, Calls Try.prog 13 #[.agg #[byteV n0, byteV n1, byteV n2]] W fun e w' => e = .returned (.agg (ndV NF).toArray) ∧ Below W.heap.size W w' := fun W => by rw [hNF]; exact Need_any n0 n1 n2 W
  have HNeedF := Lib.hid hHNeedF
  clear hr hl hvg hbd hxl hN hM hVS hLS hMade hVl hLl hHNeed hND hHNeedF hNF
  go_enter Try.func8, Try.ntmps8
  go_upto_region 1 with fail
  try simp only [World.size_alloc]
  obtain ⟨v1, hv1⟩ : ∃ v, v = ((w.alloc (.cells (grV A n c B m d).toArray 25)).alloc (.cells #[byteV m0, byteV m1, byteV m2] 36)).alloc (.cells #[byteV n0, byteV n1, byteV n2] 36) := ⟨_, rfl⟩
  have hB : Below w.heap.size w v1 := by rw [hv1]; exact ((((Below.refl _ _).alloc (Nat.le_refl _) _).alloc (by simp) _).alloc (by simp; omega) _)
  have hC : Blk v1 (w.heap.size) 25 (grV A n c B m d).toArray := by
    have := Blk.new w 25 (grV A n c B m d).toArray
    rw [hv1]; exact ((this.alloc _).alloc _)
  have hX0 : Blk v1 (w.heap.size + 1) 36 #[byteV m0, byteV m1, byteV m2] := by
    have := Blk.new (w.alloc (.cells (grV A n c B m d).toArray 25)) 36 #[byteV m0, byteV m1, byteV m2]
    rw [World.size_alloc] at this
    rw [hv1]; exact (this.alloc _)
  have hX1 : Blk v1 (w.heap.size + 1 + 1) 36 #[byteV n0, byteV n1, byteV n2] := by
    have := Blk.new ((w.alloc (.cells (grV A n c B m d).toArray 25)).alloc (.cells #[byteV m0, byteV m1, byteV m2] 36)) 36 #[byteV n0, byteV n1, byteV n2]
    rw [World.size_alloc, World.size_alloc] at this
    rw [hv1]; exact this
  rw [← hv1]
  clear hv1
  have HC := Lib.hid hC
  have HX0 := Lib.hid hX0
  have HX1 := Lib.hid hX1
  have HB := Lib.hid hB
  clear hC hX0 hX1 hB
  go_upto_region 2 with fail
  refine (sanity_any v1).mono ?_
  rintro e v2 ⟨rfl, hb2⟩
  replace HC := Lib.hid (HC.out.below hb2 HC.out.lt)
  replace HX0 := Lib.hid (HX0.out.below hb2 HX0.out.lt)
  replace HX1 := Lib.hid (HX1.out.below hb2 HX1.out.lt)
  replace HB := Lib.hid (HB.out.trans (hb2.mono HB.out.size))
  clear hb2
  replace Hr := Lib.hid (Hr.out.below HB.out)
  replace Hl := Lib.hid (Hl.out.below HB.out)
  go_upto_region 2 with fail
  go_cut [8, 9, 10] from 17 to 22 (fun t8 t9 t10 wx => ∃ (BG BN0 BN1 : Nat) (GA : Option Addr) (gc : Nat) (GB : Option Addr) (gd : Nat), t8 = .pointer (some ⟨BG, 0, none⟩) ∧ t9 = .pointer (some ⟨BN0, 0, none⟩) ∧ t10 = .pointer (some ⟨BN1, 0, none⟩) ∧ Blk wx BG 33 (grV GA N gc GB M gd).toArray ∧ Blk wx BN0 28 (ndV ND).toArray ∧ Blk wx BN1 28 (ndV NF).toArray ∧ TRd wx 3 1 GA N (VS.map intV) ∧ TRd wx 53 8 GB M (LS.flatMap lnV) ∧ Below v2.heap.size v2 wx)
  case first =>
    refine wp_region_flow_tail 9 [17, 18, 19, 20, 21, 22, 8, 9, 10] [(Spec.is (.agg (grV A n c B m d).toArray), false), (spGr N M VS LS, false), (Spec.is (.agg #[byteV m0, byteV m1, byteV m2]), false), (Spec.is (.agg (ndV ND).toArray), false), (Spec.is (.agg #[byteV n0, byteV n1, byteV n2]), false), (Spec.is (.agg (ndV NF).toArray), false), (spVar 33 (grV none 0 0 none 0 0).toArray, true), (spVar 28 (ndV nd0).toArray, true), (spVar 28 (ndV nd0).toArray, true)] 118 (by kernel_rfl) (List.take_append_drop _ _) rfl (by kernel_rfl) (by kernel_rfl) (by kernel_rfl) (by decide) (by kernel_rfl) (by kernel_rfl) (fun _ _ d _ _ h => by cases d <;> exact h) rfl (by decide) rfl (by decide) (by kernel_rfl) ?_ ?_
    · refine ⟨?_, ?_, ?_, ?_, ?_, ?_, ?_, ?_, ?_, trivial⟩
      · intro a W hE hb hs
        have h3 : a.eval (.tmp 3) = .pointer (some ⟨w.heap.size, 0, none⟩) := hb 3 (by decide)
        refine flow0 rfl ?_
        exact val_load_row 25 _ rfl w.heap.size 0 h3 (grV A n c B m d) d25 (Blk.range (HC.out.below (ext_below hE) HC.out.lt)) hd25 hrow25 (by rw [grV_len]; kernel_rfl) ⟨rfl, trivial⟩
      · intro a W hE hb hs
        have h17 : a.eval (.tmp 17) = .agg (grV A n c B m d).toArray := hs 0 (by decide)
        refine flow0 rfl ?_
        exact val_call 12 _ _ rfl (by kernel_rfl) [.agg (grV A n c B m d).toArray] (by show [a.eval (.tmp 17)] = _; rw [h17]) ((HMade.out W (Hr.out.below (ext_below hE)) (Hl.out.below (ext_below hE))).mono (by rintro e W' ⟨⟨A', c', B', d', rfl, h1, h2⟩, hb⟩; exact ⟨_, rfl, hb, ⟨A', c', B', d', rfl, h1, h2⟩, trivial⟩))
      · intro a W hE hb hs
        have h4 : a.eval (.tmp 4) = .pointer (some ⟨w.heap.size + 1, 0, none⟩) := hb 4 (by decide)
        refine flow0 rfl ?_
        exact val_load_row 36 _ rfl (w.heap.size + 1) 0 h4 [byteV m0, byteV m1, byteV m2] _ (Blk.range (HX0.out.below (ext_below hE) HX0.out.lt)) und36 rfl (by kernel_rfl) ⟨rfl, trivial⟩
      · intro a W hE hb hs
        have h19 : a.eval (.tmp 19) = .agg #[byteV m0, byteV m1, byteV m2] := hs 2 (by decide)
        refine flow0 rfl ?_
        exact val_call 13 _ _ rfl (by kernel_rfl) [.agg #[byteV m0, byteV m1, byteV m2]] (by show [a.eval (.tmp 19)] = _; rw [h19]) ((HNeed.out W).mono (by rintro e W' ⟨rfl, hb⟩; exact ⟨_, rfl, hb, rfl, trivial⟩))
      · intro a W hE hb hs
        have h5 : a.eval (.tmp 5) = .pointer (some ⟨w.heap.size + 1 + 1, 0, none⟩) := hb 5 (by decide)
        refine flow0 rfl ?_
        exact val_load_row 36 _ rfl (w.heap.size + 1 + 1) 0 h5 [byteV n0, byteV n1, byteV n2] _ (Blk.range (HX1.out.below (ext_below hE) HX1.out.lt)) und36 rfl (by kernel_rfl) ⟨rfl, trivial⟩
      · intro a W hE hb hs
        have h21 : a.eval (.tmp 21) = .agg #[byteV n0, byteV n1, byteV n2] := hs 4 (by decide)
        refine flow0 rfl ?_
        exact val_call 13 _ _ rfl (by kernel_rfl) [.agg #[byteV n0, byteV n1, byteV n2]] (by show [a.eval (.tmp 21)] = _; rw [h21]) ((HNeedF.out W).mono (by rintro e W' ⟨rfl, hb⟩; exact ⟨_, rfl, hb, rfl, trivial⟩))
      · intro a W hE hb hs
        refine flow0 rfl ?_
        exact val_alloc _ rfl (grV none 0 0 none 0 0).toArray _ i33 hi33 hz33 rfl ⟨⟨_, rfl, Blk.new _ _ _⟩, _, rfl, Nat.le_refl _, by rw [World.size_alloc]; omega⟩
      · intro a W hE hb hs
        refine flow0 rfl ?_
        exact val_alloc _ rfl (ndV nd0).toArray _ i28 hi28 hz28 rfl ⟨⟨_, rfl, Blk.new _ _ _⟩, _, rfl, Nat.le_refl _, by rw [World.size_alloc]; omega⟩
      · intro a W hE hb hs
        refine flow0 rfl ?_
        exact val_alloc _ rfl (ndV nd0).toArray _ i28 hi28 hz28 rfl ⟨⟨_, rfl, Blk.new _ _ _⟩, _, rfl, Nat.le_refl _, by rw [World.size_alloc]; omega⟩
    · intro f W hbW hT hp hd
      obtain ⟨GA, gc, GB, gd, e18, hg1, hg2⟩ : ∃ (A : Option Addr) (c : Nat) (B : Option Addr) (d : Nat), f 18 = .agg (grV A N c B M d).toArray ∧ TRd W 3 1 A N (VS.map intV) ∧ TRd W 53 8 B M (LS.flatMap lnV) := hT 1 (by decide)
      have e20 : f 20 = .agg (ndV ND).toArray := hT 3 (by decide)
      have e22 : f 22 = .agg (ndV NF).toArray := hT 5 (by decide)
      obtain ⟨BG, eBG, hBG⟩ : ∃ B, f 8 = .pointer (some ⟨B, 0, none⟩) ∧ Blk W B 33 (grV none 0 0 none 0 0).toArray := hT 6 (by decide)
      have lBG : v2.heap.size ≤ BG := by
        obtain ⟨b', h1, h2, _⟩ := hp 6 (by decide) rfl
        have h1' : f 8 = .pointer (some ⟨b', 0, none⟩) := h1
        rw [eBG] at h1'
        injection h1' with h; injection h with h; injection h with h
        omega
      obtain ⟨BN0, eBN0, hBN0⟩ : ∃ B, f 9 = .pointer (some ⟨B, 0, none⟩) ∧ Blk W B 28 (ndV nd0).toArray := hT 7 (by decide)
      have lBN0 : v2.heap.size ≤ BN0 := by
        obtain ⟨b', h1, h2, _⟩ := hp 7 (by decide) rfl
        have h1' : f 9 = .pointer (some ⟨b', 0, none⟩) := h1
        rw [eBN0] at h1'
        injection h1' with h; injection h with h; injection h with h
        omega
      obtain ⟨BN1, eBN1, hBN1⟩ : ∃ B, f 10 = .pointer (some ⟨B, 0, none⟩) ∧ Blk W B 28 (ndV nd0).toArray := hT 8 (by decide)
      have lBN1 : v2.heap.size ≤ BN1 := by
        obtain ⟨b', h1, h2, _⟩ := hp 8 (by decide) rfl
        have h1' : f 10 = .pointer (some ⟨b', 0, none⟩) := h1
        rw [eBN1] at h1'
        injection h1' with h; injection h with h; injection h with h
        omega
      have nBGBN0 : BG ≠ BN0 := hBG.ne hBN0 (by decide)
      have nBN0BG : BN0 ≠ BG := fun e => nBGBN0 e.symm
      have nBGBN1 : BG ≠ BN1 := hBG.ne hBN1 (by decide)
      have nBN1BG : BN1 ≠ BG := fun e => nBGBN1 e.symm
      have nBN0BN1 : BN0 ≠ BN1 := fun e => hd 7 8 (by decide) (by decide) (by decide) rfl rfl (by show f 9 = f 10; rw [eBN0, eBN1, e])
      have nBN1BN0 : BN1 ≠ BN0 := fun e => nBN0BN1 e.symm
      have hbZ := hbW
      have HK0 := (KeptIn.refl (fun k => k ≠ BG) (W)).setRow (g := BG) (fun h => h rfl) (grV GA N gc GB M gd).toArray
      have sBG := hBG
      replace hg1 := hg1.kept hBG (by decide) HK0
      replace hg2 := hg2.kept hBG (by decide) HK0
      replace hBN0 := hBN0.keptIn HK0 nBN0BG
      replace hBN1 := hBN1.keptIn HK0 nBN1BG
      replace hBG : Blk ((W).setRow BG (grV GA N gc GB M gd).toArray) BG 33 (grV GA N gc GB M gd).toArray := setRow_heap _ _ _ _ _ _ sBG
      replace hbZ := Below.setRow hbZ lBG (grV GA N gc GB M gd).toArray
      have HK1 := (KeptIn.refl (fun k => k ≠ BN0) ((W).setRow BG (grV GA N gc GB M gd).toArray)).setRow (g := BN0) (fun h => h rfl) (ndV ND).toArray
      have sBN0 := hBN0
      replace hg1 := hg1.kept hBN0 (by decide) HK1
      replace hg2 := hg2.kept hBN0 (by decide) HK1
      replace hBG := hBG.keptIn HK1 nBGBN0
      replace hBN1 := hBN1.keptIn HK1 nBN1BN0
      replace hBN0 : Blk (((W).setRow BG (grV GA N gc GB M gd).toArray).setRow BN0 (ndV ND).toArray) BN0 28 (ndV ND).toArray := setRow_heap _ _ _ _ _ _ sBN0
      replace hbZ := Below.setRow hbZ lBN0 (ndV ND).toArray
      have HK2 := (KeptIn.refl (fun k => k ≠ BN1) (((W).setRow BG (grV GA N gc GB M gd).toArray).setRow BN0 (ndV ND).toArray)).setRow (g := BN1) (fun h => h rfl) (ndV NF).toArray
      have sBN1 := hBN1
      replace hg1 := hg1.kept hBN1 (by decide) HK2
      replace hg2 := hg2.kept hBN1 (by decide) HK2
      replace hBG := hBG.keptIn HK2 nBGBN1
      replace hBN0 := hBN0.keptIn HK2 nBN0BN1
      replace hBN1 : Blk ((((W).setRow BG (grV GA N gc GB M gd).toArray).setRow BN0 (ndV ND).toArray).setRow BN1 (ndV NF).toArray) BN1 28 (ndV NF).toArray := setRow_heap _ _ _ _ _ _ sBN1
      replace hbZ := Below.setRow hbZ lBN1 (ndV NF).toArray
      simp only [List.drop_succ_cons, List.drop_zero]
      simp only [putV, List.foldl_cons, List.foldl_nil, Act.put, List.setIfInBounds_toArray, List.set_cons_succ, List.set_cons_zero]
      rw [eBG, eBN0, eBN1, e18, e20, e22]
      refine wpList_store_row rfl 33 (.tmp 8) (.tmp 18) rfl BG (grV GA N gc GB M gd).toArray rfl rfl 33 (grV none 0 0 none 0 0).toArray sBG (size33 _ rfl) rfl (gr_one _ _ _ _ _ _) ?_
      refine wpList_store_row rfl 28 (.tmp 9) (.tmp 20) rfl BN0 (ndV ND).toArray rfl rfl 28 (ndV nd0).toArray sBN0 (size28 _ rfl) rfl (nd_one _) ?_
      refine wpList_store_row rfl 28 (.tmp 10) (.tmp 22) rfl BN1 (ndV NF).toArray rfl rfl 28 (ndV nd0).toArray sBN1 (size28 _ rfl) rfl (nd_one _) ?_
      refine wpList_nil ?_
      have HX := Lib.hid (And.intro hBG (And.intro hBN0 (And.intro hBN1 (And.intro hg1 (And.intro hg2 hbZ)))))
      clear hT hp hd HK0 HK1 HK2 sBG sBN0 sBN1 hBG hBN0 hBN1 hg1 hg2 hbZ hbW
      go_wp2_with fail
      go_meet
      exact ⟨BG, BN0, BN1, GA, gc, GB, gd, rfl, rfl, rfl, HX.out⟩
  case' rest => skip
  obtain ⟨BG, BN0, BN1, GA, gc, GB, gd, rfl, rfl, rfl, gBG, gBN0, gBN1, hR, hL, hb3⟩ := hcut
  obtain ⟨v3, h_⟩ : ∃ v, v = wc := ⟨_, rfl⟩
  subst h_
  have HG := Lib.hid gBG
  have HBN0 := Lib.hid gBN0
  have HBN1 := Lib.hid gBN1
  have HRd := Lib.hid hR
  have HLd := Lib.hid hL
  clear hR hL gBG gBN0 gBN1
  replace HB := Lib.hid (HB.out.trans (hb3.mono HB.out.size))
  clear hb3 HC HX0 HX1 Hr Hl HMade HNeed HNeedF
  have a0 : v3.cell? ⟨BN0, 0, none⟩ = some (.int .i64 ND.s) := by rw [HBN0.out.cell]; rfl
  have b0 : v3.cell? ⟨BN1, 0, none⟩ = some (.int .i64 NF.s) := by rw [HBN1.out.cell]; rfl
  have a1 : v3.cell? ⟨BN0, 1, none⟩ = some (.int .i64 ND.u) := by rw [HBN0.out.cell]; rfl
  have b1 : v3.cell? ⟨BN1, 1, none⟩ = some (.int .i64 NF.u) := by rw [HBN1.out.cell]; rfl
  have a2 : v3.cell? ⟨BN0, 2, none⟩ = some (.int .i64 ND.r) := by rw [HBN0.out.cell]; rfl
  have b2 : v3.cell? ⟨BN1, 2, none⟩ = some (.int .i64 NF.r) := by rw [HBN1.out.cell]; rfl
  have a3 : v3.cell? ⟨BN0, 3, none⟩ = some (.int .i64 ND.e) := by rw [HBN0.out.cell]; rfl
  have b3 : v3.cell? ⟨BN1, 3, none⟩ = some (.int .i64 NF.e) := by rw [HBN1.out.cell]; rfl
  have a4 : v3.cell? ⟨BN0, 4, none⟩ = some (.int .i64 ND.o) := by rw [HBN0.out.cell]; rfl
  have b4 : v3.cell? ⟨BN1, 4, none⟩ = some (.int .i64 NF.o) := by rw [HBN1.out.cell]; rfl
  obtain ⟨⟨y1, y2, y3, y4, y5, y6, y7, y8, y9, y10⟩, z1, z2, z3, z4, z5, z6, z7, z8, z9, z10⟩ := HNb.out
  obtain ⟨NM, hNM⟩ : ∃ x : Nd, x = ⟨ND.s + NF.s, ND.u + NF.u, ND.r + NF.r, ND.e + NF.e, ND.o + NF.o⟩ := ⟨_, rfl⟩
  have hmono : ∀ q, fitsB q ND = true → fitsB q NM = true := fun q hq => by
    rw [hNM]
    unfold fitsB at hq ⊢
    rw [decide_eq_true_eq] at hq ⊢
    simp only
    omega
  have Hmono := Lib.hid hmono
  have hcl : (#[.int .i64 (ND.s + NF.s), .int .i64 (ND.u + NF.u), .int .i64 (ND.r + NF.r), .int .i64 (ND.e + NF.e), .int .i64 (ND.o + NF.o)] : Array Value) = (ndV NM).toArray := by rw [hNM]; rfl
  have Hcl := Lib.hid hcl
  clear hNM hmono hcl
  go_upto_region 4 with fail
  rw [Hcl.out]
  obtain ⟨v4, hv4⟩ : ∃ v, v = v3.alloc (.cells (ndV NM).toArray 28) := ⟨_, rfl⟩
  have hb4 : Below v3.heap.size v3 v4 := by rw [hv4]; exact (Below.refl _ _).alloc (Nat.le_refl _) _
  have hM4 : Blk v4 v3.heap.size 28 (ndV NM).toArray := by rw [hv4]; exact Blk.new _ _ _
  rw [← hv4]
  clear hv4 Hcl y1 y2 y3 y4 y5 y6 y7 y8 y9 y10 z1 z2 z3 z4 z5 z6 z7 z8 z9 z10 a0 a1 a2 a3 a4 b0 b1 b2 b3 b4 HNb
  obtain ⟨BM, hBM⟩ : ∃ v, v = v3.heap.size := ⟨_, rfl⟩
  rw [← hBM] at hM4 ⊢
  clear hBM
  have HMk := Lib.hid hM4
  clear hM4
  replace HG := Lib.hid (HG.out.below hb4 HG.out.lt)
  replace HBN0 := Lib.hid (HBN0.out.below hb4 HBN0.out.lt)
  replace HRd := Lib.hid (HRd.out.below hb4)
  replace HLd := Lib.hid (HLd.out.below hb4)
  replace HB := Lib.hid (HB.out.trans (hb4.mono HB.out.size))
  clear hb4
  go_wp2_with fail
  go_loopw [12] (fun v12 wr => ∃ i : Nat, v12 = .int .i64 (i : Int) ∧ i ≤ N ∧ Below v4.heap.size v4 wr) (fun v12 _ => N - (intOf v12).toNat)
  case atStart => exact ⟨0, rfl, by omega, Below.refl _ _⟩
  case round =>
    obtain ⟨i, rfl, hiN, hBr⟩ := hrel
    have HBr := Lib.hid hBr
    have g0 : wr.cell? ⟨BG, 0, none⟩ = some (.slice GA N gc) := by rw [(HG.out.below hBr HG.out.lt).cell]; rfl
    clear hBr
    by_cases li : i < N
    rotate_left
    · obtain rfl : N = i := by omega
      clear li
      go_upto_region 14 with fail
      have hbx := HBr.out
      replace HG := Lib.hid (HG.out.below hbx HG.out.lt)
      replace HBN0 := Lib.hid (HBN0.out.below hbx HBN0.out.lt)
      replace HMk := Lib.hid (HMk.out.below hbx HMk.out.lt)
      replace HRd := Lib.hid (HRd.out.below hbx)
      replace HLd := Lib.hid (HLd.out.below hbx)
      replace HB := Lib.hid (HB.out.trans (hbx.mono HB.out.size))
      clear hbx
      clear HBr g0
      go_cut [6] from 106 to 117 (fun t6 wx => t6 = .bool true ∧ Below wr.heap.size wr wx)
      case first =>
        refine wp_region_flowF [106, 107, 108, 109, 110, 111, 112, 113, 114, 115, 116, 117, 6] [(Spec.is (.agg (grV GA N gc GB M gd).toArray), false), (Spec.is (.agg (ndV ND).toArray), false), (spRe VS LS ND 3, false), (spLe VS LS ND 3, false), (Spec.is (.agg (grV GA N gc GB M gd).toArray), false), (Spec.is (.agg (ndV NM).toArray), false), (spRe VS LS NM 3, false), (spLe VS LS NM 3, false), (Spec.is (.bool true), false), (Spec.is (.bool true), false), (Spec.is (.bool true), false), (Spec.is (.bool true), false), (Spec.is (.bool true), false)] 118 (by kernel_rfl) rfl (by decide) rfl (by decide) (by kernel_rfl) ?_ ?_
        · refine ⟨?_, ?_, ?_, ?_, ?_, ?_, ?_, ?_, ?_, ?_, ?_, ?_, ?_, trivial⟩
          · intro a W hE hb hs
            have h8 : a.eval (.tmp 8) = .pointer (some ⟨BG, 0, none⟩) := hb 8 (by decide)
            refine flow0 rfl ?_
            exact val_load_row 33 _ rfl BG 0 h8 (grV GA N gc GB M gd) d33 (Blk.range (HG.out.below (ext_below hE) HG.out.lt)) hd33 hrow33 (by rw [grV_len]; kernel_rfl) ⟨rfl, trivial⟩
          · intro a W hE hb hs
            have h9 : a.eval (.tmp 9) = .pointer (some ⟨BN0, 0, none⟩) := hb 9 (by decide)
            refine flow0 rfl ?_
            exact val_load_row 28 _ rfl BN0 0 h9 (ndV ND) d28 (Blk.range (HBN0.out.below (ext_below hE) HBN0.out.lt)) hd28 hrow28 (by rw [ndV_len]; kernel_rfl) ⟨rfl, trivial⟩
          · intro a W hE hb hs
            have h106 : a.eval (.tmp 106) = .agg (grV GA N gc GB M gd).toArray := hs 0 (by decide)
            have h107 : a.eval (.tmp 107) = .agg (ndV ND).toArray := hs 1 (by decide)
            refine flow0 rfl ?_
            exact val_call 15 _ _ rfl (by kernel_rfl) [.agg (grV GA N gc GB M gd).toArray, .int .i64 3, .agg (ndV ND).toArray] (by show [a.eval (.tmp 106), a.eval (.const (.int .i64 3)), a.eval (.tmp 107)] = _; rw [h106, h107]; rfl) ((Reach_C _ _ _ _ _ _ VS LS 3 ND W (HRd.out.rd.below (ext_below hE)) (HLd.out.rd.below (ext_below hE)) Hvg.out).mono (by rintro e W' ⟨⟨A', c', rfl, _, hk⟩, hb⟩; exact ⟨_, rfl, hb, ⟨A', c', rfl, hk⟩, trivial⟩))
          · intro a W hE hb hs
            have h108 : ∃ (A : Option Addr) (c : Nat), (a.eval (.tmp 108)) = .slice A (reachC VS LS ND 3).length c ∧ ReachOk VS LS ND 3 := hs 2 (by decide)
            refine flow0 rfl ?_
            obtain ⟨A1, c1, e1, r1⟩ := h108
            exact val_len _ _ _ rfl Try.underlying30 A1 _ c1 e1 ⟨⟨rfl, r1⟩, trivial⟩
          · intro a W hE hb hs
            have h8 : a.eval (.tmp 8) = .pointer (some ⟨BG, 0, none⟩) := hb 8 (by decide)
            refine flow0 rfl ?_
            exact val_load_row 33 _ rfl BG 0 h8 (grV GA N gc GB M gd) d33 (Blk.range (HG.out.below (ext_below hE) HG.out.lt)) hd33 hrow33 (by rw [grV_len]; kernel_rfl) ⟨rfl, trivial⟩
          · intro a W hE hb hs
            have h11 : a.eval (.tmp 11) = .pointer (some ⟨BM, 0, none⟩) := hb 11 (by decide)
            refine flow0 rfl ?_
            exact val_load_row 28 _ rfl BM 0 h11 (ndV NM) d28 (Blk.range (HMk.out.below (ext_below hE) HMk.out.lt)) hd28 hrow28 (by rw [ndV_len]; kernel_rfl) ⟨rfl, trivial⟩
          · intro a W hE hb hs
            have h110 : a.eval (.tmp 110) = .agg (grV GA N gc GB M gd).toArray := hs 4 (by decide)
            have h111 : a.eval (.tmp 111) = .agg (ndV NM).toArray := hs 5 (by decide)
            refine flow0 rfl ?_
            exact val_call 15 _ _ rfl (by kernel_rfl) [.agg (grV GA N gc GB M gd).toArray, .int .i64 3, .agg (ndV NM).toArray] (by show [a.eval (.tmp 110), a.eval (.const (.int .i64 3)), a.eval (.tmp 111)] = _; rw [h110, h111]; rfl) ((Reach_C _ _ _ _ _ _ VS LS 3 NM W (HRd.out.rd.below (ext_below hE)) (HLd.out.rd.below (ext_below hE)) Hvg.out).mono (by rintro e W' ⟨⟨A', c', rfl, _, hk⟩, hb⟩; exact ⟨_, rfl, hb, ⟨A', c', rfl, hk⟩, trivial⟩))
          · intro a W hE hb hs
            have h112 : ∃ (A : Option Addr) (c : Nat), (a.eval (.tmp 112)) = .slice A (reachC VS LS NM 3).length c ∧ ReachOk VS LS NM 3 := hs 6 (by decide)
            refine flow0 rfl ?_
            obtain ⟨A1, c1, e1, r1⟩ := h112
            exact val_len _ _ _ rfl Try.underlying30 A1 _ c1 e1 ⟨⟨rfl, r1⟩, trivial⟩
          · intro a W hE hb hs
            have h109 : (a.eval (.tmp 109)) = .int .i64 ((reachC VS LS ND 3).length : Int) ∧ ReachOk VS LS ND 3 := hs 3 (by decide)
            have h113 : (a.eval (.tmp 113)) = .int .i64 ((reachC VS LS NM 3).length : Int) ∧ ReachOk VS LS NM 3 := hs 7 (by decide)
            refine flow0 rfl ?_
            obtain ⟨e1, r1⟩ := h109
            obtain ⟨e2, r2⟩ := h113
            have q1 := limits_reach Hmono.out r1 r2
            intro K hK
            unfold Oper.wp execOp
            simp only [e1, e2]
            simp [go_sem, q1]
            exact hK _ _ ⟨Below.refl _ _, rfl, trivial⟩
          · intro a W hE hb hs
            have h114 : a.eval (.tmp 114) = .bool true := hs 8 (by decide)
            refine flow0 rfl ?_
            exact val_move _ rfl _ h114 ⟨rfl, trivial⟩
          · intro a W hE hb hs
            have h115 : a.eval (.tmp 115) = .bool true := hs 9 (by decide)
            have h7 : a.eval (.tmp 7) = .bool true := hb 7 (by decide)
            refine flowY rfl rfl h115 ?_
            exact val_move _ rfl _ h7 ⟨rfl, trivial⟩
          · intro a W hE hb hs
            have h115 : a.eval (.tmp 115) = .bool true := hs 9 (by decide)
            have h116 : a.eval (.tmp 116) = .bool true := hs 10 (by decide)
            refine flow0 rfl ?_
            exact val_pick _ _ _ rfl true h115 _ (by rw [if_pos rfl]; exact h116) ⟨rfl, trivial⟩
          · intro a W hE hb hs
            have h117 : a.eval (.tmp 117) = .bool true := hs 11 (by decide)
            refine flow0 rfl ?_
            exact val_assign _ rfl _ h117 ⟨rfl, trivial⟩
        · intro f W hbW hT hp hd
          have hres : f 6 = .bool true := hT 12 (by decide)
          simp only [putV, List.foldl_cons, List.foldl_nil, Act.put, List.setIfInBounds_toArray, List.set_cons_succ, List.set_cons_zero, Exit.then]
          rw [hres]
          have Hend := Lib.hid hbW
          clear hT hp hd hres hbW
          go_wp2_with fail
          go_meet
          exact ⟨rfl, Hend.out⟩
      case' rest => skip
      obtain ⟨rfl, hbn⟩ := hcut
      have HBz := Lib.hid (HB.out.trans (hbn.mono HB.out.size))
      clear hbn
      go_wp2_with fail
      go_ret
      exact ⟨rfl, HBz.out⟩
    have d0 : decide ((i : Int) < (N : Int)) = true := decide_eq_true (by omega)
    obtain ⟨wo, hwo⟩ : ∃ wo, wo = wr := ⟨_, rfl⟩
    subst hwo
    go_wp2_with fail
    clear d0 g0
    go_loopw [13] (fun v13 wr => ∃ k : Nat, v13 = .int .i64 (k : Int) ∧ k ≤ N ∧ Below v4.heap.size v4 wr) (fun v13 _ => N - (intOf v13).toNat)
    case atStart => exact ⟨0, rfl, by omega, HBr.out⟩
    case round =>
      clear HBr
      obtain ⟨k, rfl, hkN, hBr⟩ := hrel
      have HBr := Lib.hid hBr
      have g0 : wr.cell? ⟨BG, 0, none⟩ = some (.slice GA N gc) := by rw [(HG.out.below hBr HG.out.lt).cell]; rfl
      clear hBr
      by_cases lk : k < N
      rotate_left
      · have d1 : decide ((k : Int) < (N : Int)) = false := decide_eq_false (by omega)
        have d2 : decide (k < N) = false := decide_eq_false lk
        clear lk
        go_wp2_with fail
        exact ⟨⟨i + 1, by go_num, by omega, HBr.out⟩, by simp [intOf]; omega⟩
      have d1 : decide ((k : Int) < (N : Int)) = true := decide_eq_true (by omega)
      go_upto_region 10 with fail
      clear d1 g0
      have hbx := HBr.out
      replace HG := Lib.hid (HG.out.below hbx HG.out.lt)
      replace HBN0 := Lib.hid (HBN0.out.below hbx HBN0.out.lt)
      replace HMk := Lib.hid (HMk.out.below hbx HMk.out.lt)
      replace HRd := Lib.hid (HRd.out.below hbx)
      replace HLd := Lib.hid (HLd.out.below hbx)
      replace HB := Lib.hid (HB.out.trans (hbx.mono HB.out.size))
      clear hbx
      obtain ⟨vb, vo, vi, ea, hvi, cvi0⟩ := HRd.out.rd.at_ li
      subst ea
      obtain ⟨_, _, vk, ea, hvk, cvk0⟩ := HRd.out.rd.at_ lk
      cases ea
      have cvi : wr.cell? ⟨vb, vo + i, none⟩ = some (.int .i64 vi) := cvi0
      have cvk : wr.cell? ⟨vb, vo + k, none⟩ = some (.int .i64 vk) := cvk0
      clear cvi0 cvk0 hvi hvk
      go_cut [14] from 63 to 76 (fun t14 wx => ∃ (B14 : Nat) (A1 : Option Addr) (c1 : Nat), t14 = .pointer (some ⟨B14, 0, none⟩) ∧ Blk wx B14 44 (rsV A1 (pathC VS LS ND vi vk).1.length c1 (pathC VS LS ND vi vk).2.1 (pathC VS LS ND vi vk).2.2).toArray ∧ PathOk VS LS ND vi vk ∧ Below wr.heap.size wr wx)
      case first =>
        refine wp_region_flow_tail 15 [63, 64, 65, 66, 67, 68, 69, 70, 71, 72, 73, 74, 75, 76, 14] [(Spec.is (.agg (grV (some ⟨vb, vo, none⟩) N gc GB M gd).toArray), false), (Spec.is (.pointer (some ⟨BG, 0, none⟩)), false), (Spec.is (.slice (some ⟨vb, vo, none⟩) N gc), false), (Spec.is (.int .i64 (i : Int)), false), (Spec.is (.pointer (some ⟨vb, vo + i, none⟩)), false), (Spec.is (.int .i64 vi), false), (Spec.is (.pointer (some ⟨BG, 0, none⟩)), false), (Spec.is (.slice (some ⟨vb, vo, none⟩) N gc), false), (Spec.is (.int .i64 (k : Int)), false), (Spec.is (.pointer (some ⟨vb, vo + k, none⟩)), false), (Spec.is (.int .i64 vk), false), (Spec.is (.agg (ndV ND).toArray), false), (Spec.is (.agg (asV vi vk ND).toArray), false), (spPa VS LS ND vi vk, false), (spVar 44 (rsV none 0 0 0 0).toArray, true)] 118 (by kernel_rfl) (List.take_append_drop _ _) rfl (by kernel_rfl) (by kernel_rfl) (by kernel_rfl) (by decide) (by kernel_rfl) (by kernel_rfl) (fun _ _ d _ _ h => by cases d <;> exact h) rfl (by decide) rfl (by decide) (by kernel_rfl) ?_ ?_
        · refine ⟨?_, ?_, ?_, ?_, ?_, ?_, ?_, ?_, ?_, ?_, ?_, ?_, ?_, ?_, ?_, trivial⟩
          · intro a W hE hb hs
            have h8 : a.eval (.tmp 8) = .pointer (some ⟨BG, 0, none⟩) := hb 8 (by decide)
            refine flow0 rfl ?_
            exact val_load_row 33 _ rfl BG 0 h8 (grV (some ⟨vb, vo, none⟩) N gc GB M gd) d33 (Blk.range (HG.out.below (ext_below hE) HG.out.lt)) hd33 hrow33 (by rw [grV_len]; kernel_rfl) ⟨rfl, trivial⟩
          · intro a W hE hb hs
            have h8 : a.eval (.tmp 8) = .pointer (some ⟨BG, 0, none⟩) := hb 8 (by decide)
            refine flow0 rfl ?_
            intro K hK
            unfold Oper.wp execOp
            simp only [h8]
            simp [go_sem]
            exact hK _ _ ⟨Below.refl _ _, rfl, trivial⟩
          · intro a W hE hb hs
            have h64 : a.eval (.tmp 64) = .pointer (some ⟨BG, 0, none⟩) := hs 1 (by decide)
            refine flow0 rfl ?_
            have g0 : W.cell? ⟨BG, 0, none⟩ = some (.slice (some ⟨vb, vo, none⟩) N gc) := by rw [(HG.out.below (ext_below hE) HG.out.lt).cell]; rfl
            intro K hK
            unfold Oper.wp execOp
            simp only [h64]
            simp [go_sem, g0]
            exact hK _ _ ⟨Below.refl _ _, rfl, trivial⟩
          · intro a W hE hb hs
            have h12 : a.eval (.tmp 12) = .int .i64 (i : Int) := hb 12 (by decide)
            refine flow0 rfl ?_
            exact val_move _ rfl _ h12 ⟨rfl, trivial⟩
          · intro a W hE hb hs
            have h65 : a.eval (.tmp 65) = .slice (some ⟨vb, vo, none⟩) N gc := hs 2 (by decide)
            have h66 : a.eval (.tmp 66) = .int .i64 (i : Int) := hs 3 (by decide)
            refine flow0 rfl ?_
            intro K hK
            unfold Oper.wp execOp
            simp only [h65, h66]
            simp [go_sem, li]
            exact hK _ _ ⟨Below.refl _ _, rfl, trivial⟩
          · intro a W hE hb hs
            have h67 : a.eval (.tmp 67) = .pointer (some ⟨vb, vo + i, none⟩) := hs 4 (by decide)
            refine flow0 rfl ?_
            have c0 : W.cell? ⟨vb, vo + i, none⟩ = some (.int .i64 vi) := ((ext_below hE).cell (World.block_lt_of_cell? _ _ cvi)).trans cvi
            intro K hK
            unfold Oper.wp execOp
            simp only [h67]
            simp [go_sem, c0]
            exact hK _ _ ⟨Below.refl _ _, rfl, trivial⟩
          · intro a W hE hb hs
            have h8 : a.eval (.tmp 8) = .pointer (some ⟨BG, 0, none⟩) := hb 8 (by decide)
            refine flow0 rfl ?_
            intro K hK
            unfold Oper.wp execOp
            simp only [h8]
            simp [go_sem]
            exact hK _ _ ⟨Below.refl _ _, rfl, trivial⟩
          · intro a W hE hb hs
            have h69 : a.eval (.tmp 69) = .pointer (some ⟨BG, 0, none⟩) := hs 6 (by decide)
            refine flow0 rfl ?_
            have g0 : W.cell? ⟨BG, 0, none⟩ = some (.slice (some ⟨vb, vo, none⟩) N gc) := by rw [(HG.out.below (ext_below hE) HG.out.lt).cell]; rfl
            intro K hK
            unfold Oper.wp execOp
            simp only [h69]
            simp [go_sem, g0]
            exact hK _ _ ⟨Below.refl _ _, rfl, trivial⟩
          · intro a W hE hb hs
            have h13 : a.eval (.tmp 13) = .int .i64 (k : Int) := hb 13 (by decide)
            refine flow0 rfl ?_
            exact val_move _ rfl _ h13 ⟨rfl, trivial⟩
          · intro a W hE hb hs
            have h70 : a.eval (.tmp 70) = .slice (some ⟨vb, vo, none⟩) N gc := hs 7 (by decide)
            have h71 : a.eval (.tmp 71) = .int .i64 (k : Int) := hs 8 (by decide)
            refine flow0 rfl ?_
            intro K hK
            unfold Oper.wp execOp
            simp only [h70, h71]
            simp [go_sem, lk]
            exact hK _ _ ⟨Below.refl _ _, rfl, trivial⟩
          · intro a W hE hb hs
            have h72 : a.eval (.tmp 72) = .pointer (some ⟨vb, vo + k, none⟩) := hs 9 (by decide)
            refine flow0 rfl ?_
            have c0 : W.cell? ⟨vb, vo + k, none⟩ = some (.int .i64 vk) := ((ext_below hE).cell (World.block_lt_of_cell? _ _ cvk)).trans cvk
            intro K hK
            unfold Oper.wp execOp
            simp only [h72]
            simp [go_sem, c0]
            exact hK _ _ ⟨Below.refl _ _, rfl, trivial⟩
          · intro a W hE hb hs
            have h9 : a.eval (.tmp 9) = .pointer (some ⟨BN0, 0, none⟩) := hb 9 (by decide)
            refine flow0 rfl ?_
            exact val_load_row 28 _ rfl BN0 0 h9 (ndV ND) d28 (Blk.range (HBN0.out.below (ext_below hE) HBN0.out.lt)) hd28 hrow28 (by rw [ndV_len]; kernel_rfl) ⟨rfl, trivial⟩
          · intro a W hE hb hs
            have h68 : a.eval (.tmp 68) = .int .i64 vi := hs 5 (by decide)
            have h73 : a.eval (.tmp 73) = .int .i64 vk := hs 10 (by decide)
            have h74 : a.eval (.tmp 74) = .agg (ndV ND).toArray := hs 11 (by decide)
            refine flow0 rfl ?_
            exact val_build 40 _ rfl [(0, .int .i64 vi), (1, .int .i64 vk), (2, .agg (ndV ND).toArray)] (by show [(0, a.eval (.tmp 68)), (1, a.eval (.tmp 73)), (2, a.eval (.tmp 74))] = _; rw [h68, h73, h74]) _ (built40 _ _ _) ⟨rfl, trivial⟩
          · intro a W hE hb hs
            have h63 : a.eval (.tmp 63) = .agg (grV (some ⟨vb, vo, none⟩) N gc GB M gd).toArray := hs 0 (by decide)
            have h75 : a.eval (.tmp 75) = .agg (asV vi vk ND).toArray := hs 12 (by decide)
            refine flow0 rfl ?_
            exact val_call 18 _ _ rfl (by kernel_rfl) [.agg (grV (some ⟨vb, vo, none⟩) N gc GB M gd).toArray, .agg (asV vi vk ND).toArray] (by show [a.eval (.tmp 63), a.eval (.tmp 75)] = _; rw [h63, h75]) ((path_C _ _ _ _ _ _ VS LS vi vk ND W (HRd.out.rd.below (ext_below hE)) (HLd.out.rd.below (ext_below hE)) Hvg.out).mono (by rintro e W' ⟨⟨A', c', rfl, hr, hp⟩, hb⟩; exact ⟨_, rfl, hb, ⟨A', c', rfl, hr, hp⟩, trivial⟩))
          · intro a W hE hb hs
            refine flow0 rfl ?_
            exact val_alloc _ rfl (rsV none 0 0 0 0).toArray _ i44 hi44 hz44 rfl ⟨⟨_, rfl, Blk.new _ _ _⟩, _, rfl, Nat.le_refl _, by rw [World.size_alloc]; omega⟩
        · intro f W hbW hT hp hd
          obtain ⟨A1, c1, e76, _, ok1⟩ : ∃ (A : Option Addr) (c : Nat), f 76 = .agg (rsV A (pathC VS LS ND vi vk).1.length c (pathC VS LS ND vi vk).2.1 (pathC VS LS ND vi vk).2.2).toArray ∧ TRd W 3 1 A (pathC VS LS ND vi vk).1.length ((castL (pathC VS LS ND vi vk).1).map intV) ∧ PathOk VS LS ND vi vk := hT 13 (by decide)
          obtain ⟨B14, eB14, hB14⟩ : ∃ B, f 14 = .pointer (some ⟨B, 0, none⟩) ∧ Blk W B 44 (rsV none 0 0 0 0).toArray := hT 14 (by decide)
          have lB14 : wr.heap.size ≤ B14 := by
            obtain ⟨b', h1, h2, _⟩ := hp 14 (by decide) rfl
            have h1' : f 14 = .pointer (some ⟨b', 0, none⟩) := h1
            rw [eB14] at h1'
            injection h1' with h; injection h with h; injection h with h
            omega
          have hbZ := hbW
          have HK0 := (KeptIn.refl (fun k => k ≠ B14) (W)).setRow (g := B14) (fun h => h rfl) (rsV A1 (pathC VS LS ND vi vk).1.length c1 (pathC VS LS ND vi vk).2.1 (pathC VS LS ND vi vk).2.2).toArray
          have sB14 := hB14
          replace hB14 : Blk ((W).setRow B14 (rsV A1 (pathC VS LS ND vi vk).1.length c1 (pathC VS LS ND vi vk).2.1 (pathC VS LS ND vi vk).2.2).toArray) B14 44 (rsV A1 (pathC VS LS ND vi vk).1.length c1 (pathC VS LS ND vi vk).2.1 (pathC VS LS ND vi vk).2.2).toArray := setRow_heap _ _ _ _ _ _ sB14
          replace hbZ := Below.setRow hbZ lB14 (rsV A1 (pathC VS LS ND vi vk).1.length c1 (pathC VS LS ND vi vk).2.1 (pathC VS LS ND vi vk).2.2).toArray
          simp only [List.drop_succ_cons, List.drop_zero]
          simp only [putV, List.foldl_cons, List.foldl_nil, Act.put, List.setIfInBounds_toArray, List.set_cons_succ, List.set_cons_zero]
          rw [eB14, e76]
          refine wpList_store_row rfl 44 (.tmp 14) (.tmp 76) rfl B14 (rsV A1 (pathC VS LS ND vi vk).1.length c1 (pathC VS LS ND vi vk).2.1 (pathC VS LS ND vi vk).2.2).toArray rfl rfl 44 (rsV none 0 0 0 0).toArray sB14 (size44 _ rfl) rfl (rs_one _ _ _ _ _) ?_
          refine wpList_nil ?_
          have HX := Lib.hid (And.intro hB14 (And.intro ok1 hbZ))
          clear hT hp hd HK0 sB14 hB14 hbZ hbW ok1
          go_wp2_with fail
          go_meet
          exact ⟨B14, A1, c1, rfl, HX.out⟩
      case' rest => skip
      obtain ⟨B14, A1, c1, rfl, hb_, ok14, hbn⟩ := hcut
      obtain ⟨u4, h_⟩ : ∃ v, v = wc := ⟨_, rfl⟩
      subst h_
      have HB14 := Lib.hid hb_
      have Hok14 := Lib.hid ok14
      replace HBr := Lib.hid (HBr.out.trans (hbn.mono HBr.out.size))
      clear hb_ ok14
      have cvi' := (hbn.cell (World.block_lt_of_cell? _ _ cvi)).trans cvi
      have cvk' := (hbn.cell (World.block_lt_of_cell? _ _ cvk)).trans cvk
      clear cvi cvk
      have cvi := cvi'
      have cvk := cvk'
      clear cvi' cvk'
      replace HG := Lib.hid (HG.out.below hbn HG.out.lt)
      replace HMk := Lib.hid (HMk.out.below hbn HMk.out.lt)
      replace HRd := Lib.hid (HRd.out.below hbn)
      replace HLd := Lib.hid (HLd.out.below hbn)
      replace HB := Lib.hid (HB.out.trans (hbn.mono HB.out.size))
      clear hbn
      go_upto_region 11 with fail
      go_cut [15] from 77 to 90 (fun t15 wx => ∃ (B15 : Nat) (A2 : Option Addr) (c2 : Nat), t15 = .pointer (some ⟨B15, 0, none⟩) ∧ Blk wx B15 44 (rsV A2 (pathC VS LS NM vi vk).1.length c2 (pathC VS LS NM vi vk).2.1 (pathC VS LS NM vi vk).2.2).toArray ∧ PathOk VS LS NM vi vk ∧ Below u4.heap.size u4 wx)
      case first =>
        refine wp_region_flow_tail 15 [77, 78, 79, 80, 81, 82, 83, 84, 85, 86, 87, 88, 89, 90, 15] [(Spec.is (.agg (grV (some ⟨vb, vo, none⟩) N gc GB M gd).toArray), false), (Spec.is (.pointer (some ⟨BG, 0, none⟩)), false), (Spec.is (.slice (some ⟨vb, vo, none⟩) N gc), false), (Spec.is (.int .i64 (i : Int)), false), (Spec.is (.pointer (some ⟨vb, vo + i, none⟩)), false), (Spec.is (.int .i64 vi), false), (Spec.is (.pointer (some ⟨BG, 0, none⟩)), false), (Spec.is (.slice (some ⟨vb, vo, none⟩) N gc), false), (Spec.is (.int .i64 (k : Int)), false), (Spec.is (.pointer (some ⟨vb, vo + k, none⟩)), false), (Spec.is (.int .i64 vk), false), (Spec.is (.agg (ndV NM).toArray), false), (Spec.is (.agg (asV vi vk NM).toArray), false), (spPa VS LS NM vi vk, false), (spVar 44 (rsV none 0 0 0 0).toArray, true)] 118 (by kernel_rfl) (List.take_append_drop _ _) rfl (by kernel_rfl) (by kernel_rfl) (by kernel_rfl) (by decide) (by kernel_rfl) (by kernel_rfl) (fun _ _ d _ _ h => by cases d <;> exact h) rfl (by decide) rfl (by decide) (by kernel_rfl) ?_ ?_
        · refine ⟨?_, ?_, ?_, ?_, ?_, ?_, ?_, ?_, ?_, ?_, ?_, ?_, ?_, ?_, ?_, trivial⟩
          · intro a W hE hb hs
            have h8 : a.eval (.tmp 8) = .pointer (some ⟨BG, 0, none⟩) := hb 8 (by decide)
            refine flow0 rfl ?_
            exact val_load_row 33 _ rfl BG 0 h8 (grV (some ⟨vb, vo, none⟩) N gc GB M gd) d33 (Blk.range (HG.out.below (ext_below hE) HG.out.lt)) hd33 hrow33 (by rw [grV_len]; kernel_rfl) ⟨rfl, trivial⟩
          · intro a W hE hb hs
            have h8 : a.eval (.tmp 8) = .pointer (some ⟨BG, 0, none⟩) := hb 8 (by decide)
            refine flow0 rfl ?_
            intro K hK
            unfold Oper.wp execOp
            simp only [h8]
            simp [go_sem]
            exact hK _ _ ⟨Below.refl _ _, rfl, trivial⟩
          · intro a W hE hb hs
            have h78 : a.eval (.tmp 78) = .pointer (some ⟨BG, 0, none⟩) := hs 1 (by decide)
            refine flow0 rfl ?_
            have g0 : W.cell? ⟨BG, 0, none⟩ = some (.slice (some ⟨vb, vo, none⟩) N gc) := by rw [(HG.out.below (ext_below hE) HG.out.lt).cell]; rfl
            intro K hK
            unfold Oper.wp execOp
            simp only [h78]
            simp [go_sem, g0]
            exact hK _ _ ⟨Below.refl _ _, rfl, trivial⟩
          · intro a W hE hb hs
            have h12 : a.eval (.tmp 12) = .int .i64 (i : Int) := hb 12 (by decide)
            refine flow0 rfl ?_
            exact val_move _ rfl _ h12 ⟨rfl, trivial⟩
          · intro a W hE hb hs
            have h79 : a.eval (.tmp 79) = .slice (some ⟨vb, vo, none⟩) N gc := hs 2 (by decide)
            have h80 : a.eval (.tmp 80) = .int .i64 (i : Int) := hs 3 (by decide)
            refine flow0 rfl ?_
            intro K hK
            unfold Oper.wp execOp
            simp only [h79, h80]
            simp [go_sem, li]
            exact hK _ _ ⟨Below.refl _ _, rfl, trivial⟩
          · intro a W hE hb hs
            have h81 : a.eval (.tmp 81) = .pointer (some ⟨vb, vo + i, none⟩) := hs 4 (by decide)
            refine flow0 rfl ?_
            have c0 : W.cell? ⟨vb, vo + i, none⟩ = some (.int .i64 vi) := ((ext_below hE).cell (World.block_lt_of_cell? _ _ cvi)).trans cvi
            intro K hK
            unfold Oper.wp execOp
            simp only [h81]
            simp [go_sem, c0]
            exact hK _ _ ⟨Below.refl _ _, rfl, trivial⟩
          · intro a W hE hb hs
            have h8 : a.eval (.tmp 8) = .pointer (some ⟨BG, 0, none⟩) := hb 8 (by decide)
            refine flow0 rfl ?_
            intro K hK
            unfold Oper.wp execOp
            simp only [h8]
            simp [go_sem]
            exact hK _ _ ⟨Below.refl _ _, rfl, trivial⟩
          · intro a W hE hb hs
            have h83 : a.eval (.tmp 83) = .pointer (some ⟨BG, 0, none⟩) := hs 6 (by decide)
            refine flow0 rfl ?_
            have g0 : W.cell? ⟨BG, 0, none⟩ = some (.slice (some ⟨vb, vo, none⟩) N gc) := by rw [(HG.out.below (ext_below hE) HG.out.lt).cell]; rfl
            intro K hK
            unfold Oper.wp execOp
            simp only [h83]
            simp [go_sem, g0]
            exact hK _ _ ⟨Below.refl _ _, rfl, trivial⟩
          · intro a W hE hb hs
            have h13 : a.eval (.tmp 13) = .int .i64 (k : Int) := hb 13 (by decide)
            refine flow0 rfl ?_
            exact val_move _ rfl _ h13 ⟨rfl, trivial⟩
          · intro a W hE hb hs
            have h84 : a.eval (.tmp 84) = .slice (some ⟨vb, vo, none⟩) N gc := hs 7 (by decide)
            have h85 : a.eval (.tmp 85) = .int .i64 (k : Int) := hs 8 (by decide)
            refine flow0 rfl ?_
            intro K hK
            unfold Oper.wp execOp
            simp only [h84, h85]
            simp [go_sem, lk]
            exact hK _ _ ⟨Below.refl _ _, rfl, trivial⟩
          · intro a W hE hb hs
            have h86 : a.eval (.tmp 86) = .pointer (some ⟨vb, vo + k, none⟩) := hs 9 (by decide)
            refine flow0 rfl ?_
            have c0 : W.cell? ⟨vb, vo + k, none⟩ = some (.int .i64 vk) := ((ext_below hE).cell (World.block_lt_of_cell? _ _ cvk)).trans cvk
            intro K hK
            unfold Oper.wp execOp
            simp only [h86]
            simp [go_sem, c0]
            exact hK _ _ ⟨Below.refl _ _, rfl, trivial⟩
          · intro a W hE hb hs
            have h11 : a.eval (.tmp 11) = .pointer (some ⟨BM, 0, none⟩) := hb 11 (by decide)
            refine flow0 rfl ?_
            exact val_load_row 28 _ rfl BM 0 h11 (ndV NM) d28 (Blk.range (HMk.out.below (ext_below hE) HMk.out.lt)) hd28 hrow28 (by rw [ndV_len]; kernel_rfl) ⟨rfl, trivial⟩
          · intro a W hE hb hs
            have h82 : a.eval (.tmp 82) = .int .i64 vi := hs 5 (by decide)
            have h87 : a.eval (.tmp 87) = .int .i64 vk := hs 10 (by decide)
            have h88 : a.eval (.tmp 88) = .agg (ndV NM).toArray := hs 11 (by decide)
            refine flow0 rfl ?_
            exact val_build 40 _ rfl [(0, .int .i64 vi), (1, .int .i64 vk), (2, .agg (ndV NM).toArray)] (by show [(0, a.eval (.tmp 82)), (1, a.eval (.tmp 87)), (2, a.eval (.tmp 88))] = _; rw [h82, h87, h88]) _ (built40 _ _ _) ⟨rfl, trivial⟩
          · intro a W hE hb hs
            have h77 : a.eval (.tmp 77) = .agg (grV (some ⟨vb, vo, none⟩) N gc GB M gd).toArray := hs 0 (by decide)
            have h89 : a.eval (.tmp 89) = .agg (asV vi vk NM).toArray := hs 12 (by decide)
            refine flow0 rfl ?_
            exact val_call 18 _ _ rfl (by kernel_rfl) [.agg (grV (some ⟨vb, vo, none⟩) N gc GB M gd).toArray, .agg (asV vi vk NM).toArray] (by show [a.eval (.tmp 77), a.eval (.tmp 89)] = _; rw [h77, h89]) ((path_C _ _ _ _ _ _ VS LS vi vk NM W (HRd.out.rd.below (ext_below hE)) (HLd.out.rd.below (ext_below hE)) Hvg.out).mono (by rintro e W' ⟨⟨A', c', rfl, hr, hp⟩, hb⟩; exact ⟨_, rfl, hb, ⟨A', c', rfl, hr, hp⟩, trivial⟩))
          · intro a W hE hb hs
            refine flow0 rfl ?_
            exact val_alloc _ rfl (rsV none 0 0 0 0).toArray _ i44 hi44 hz44 rfl ⟨⟨_, rfl, Blk.new _ _ _⟩, _, rfl, Nat.le_refl _, by rw [World.size_alloc]; omega⟩
        · intro f W hbW hT hp hd
          obtain ⟨A2, c2, e90, _, ok1⟩ : ∃ (A : Option Addr) (c : Nat), f 90 = .agg (rsV A (pathC VS LS NM vi vk).1.length c (pathC VS LS NM vi vk).2.1 (pathC VS LS NM vi vk).2.2).toArray ∧ TRd W 3 1 A (pathC VS LS NM vi vk).1.length ((castL (pathC VS LS NM vi vk).1).map intV) ∧ PathOk VS LS NM vi vk := hT 13 (by decide)
          obtain ⟨B15, eB15, hB15⟩ : ∃ B, f 15 = .pointer (some ⟨B, 0, none⟩) ∧ Blk W B 44 (rsV none 0 0 0 0).toArray := hT 14 (by decide)
          have lB15 : u4.heap.size ≤ B15 := by
            obtain ⟨b', h1, h2, _⟩ := hp 14 (by decide) rfl
            have h1' : f 15 = .pointer (some ⟨b', 0, none⟩) := h1
            rw [eB15] at h1'
            injection h1' with h; injection h with h; injection h with h
            omega
          have hbZ := hbW
          have HK0 := (KeptIn.refl (fun k => k ≠ B15) (W)).setRow (g := B15) (fun h => h rfl) (rsV A2 (pathC VS LS NM vi vk).1.length c2 (pathC VS LS NM vi vk).2.1 (pathC VS LS NM vi vk).2.2).toArray
          have sB15 := hB15
          replace hB15 : Blk ((W).setRow B15 (rsV A2 (pathC VS LS NM vi vk).1.length c2 (pathC VS LS NM vi vk).2.1 (pathC VS LS NM vi vk).2.2).toArray) B15 44 (rsV A2 (pathC VS LS NM vi vk).1.length c2 (pathC VS LS NM vi vk).2.1 (pathC VS LS NM vi vk).2.2).toArray := setRow_heap _ _ _ _ _ _ sB15
          replace hbZ := Below.setRow hbZ lB15 (rsV A2 (pathC VS LS NM vi vk).1.length c2 (pathC VS LS NM vi vk).2.1 (pathC VS LS NM vi vk).2.2).toArray
          simp only [List.drop_succ_cons, List.drop_zero]
          simp only [putV, List.foldl_cons, List.foldl_nil, Act.put, List.setIfInBounds_toArray, List.set_cons_succ, List.set_cons_zero]
          rw [eB15, e90]
          refine wpList_store_row rfl 44 (.tmp 15) (.tmp 90) rfl B15 (rsV A2 (pathC VS LS NM vi vk).1.length c2 (pathC VS LS NM vi vk).2.1 (pathC VS LS NM vi vk).2.2).toArray rfl rfl 44 (rsV none 0 0 0 0).toArray sB15 (size44 _ rfl) rfl (rs_one _ _ _ _ _) ?_
          refine wpList_nil ?_
          have HX := Lib.hid (And.intro hB15 (And.intro ok1 hbZ))
          clear hT hp hd HK0 sB15 hB15 hbZ hbW ok1
          go_wp2_with fail
          go_meet
          exact ⟨B15, A2, c2, rfl, HX.out⟩
      case' rest => skip
      obtain ⟨B15, A2, c2, rfl, hb_, ok15, hbn⟩ := hcut
      obtain ⟨u5, h_⟩ : ∃ v, v = wc := ⟨_, rfl⟩
      subst h_
      have HB15 := Lib.hid hb_
      have Hok15 := Lib.hid ok15
      replace HBr := Lib.hid (HBr.out.trans (hbn.mono HBr.out.size))
      clear hb_ ok15
      replace HB14 := Lib.hid (HB14.out.below hbn HB14.out.lt)
      clear hbn cvi cvk
      have hdet := limits_path Hvg.out Hmono.out Hok14.out Hok15.out
      obtain ⟨⟨L1, n1, x1⟩, hp1⟩ : ∃ p, p = pathC VS LS ND vi vk := ⟨_, rfl⟩
      obtain ⟨⟨L2, n2, x2⟩, hp2⟩ : ∃ p, p = pathC VS LS NM vi vk := ⟨_, rfl⟩
      rw [← hp1] at HB14 hdet
      rw [← hp2] at HB15 hdet
      have c14 : u5.cell? ⟨B14, 1, none⟩ = some (.int .i64 n1) := by rw [HB14.out.cell]; rfl
      have c14e : u5.cell? ⟨B14, 2, none⟩ = some (.int .i64 x1) := by rw [HB14.out.cell]; rfl
      have c15 : u5.cell? ⟨B15, 1, none⟩ = some (.int .i64 n2) := by rw [HB15.out.cell]; rfl
      have c15e : u5.cell? ⟨B15, 2, none⟩ = some (.int .i64 x2) := by rw [HB15.out.cell]; rfl
      have Hdet := Lib.hid hdet
      clear hp1 hp2 hdet Hok14 Hok15
      by_cases e1 : x1 = 0
      rotate_left
      · have q1 : (x1 == 0) = false := by rw [beq_eq_false_iff_ne]; exact e1
        clear e1
        go_wp2_with fail
        exact ⟨⟨k + 1, by go_num, by omega, HBr.out⟩, by simp [intOf]; omega⟩
      obtain ⟨e3, e4⟩ := Hdet.out e1
      have q4 : decide (n1 < n2) = false := decide_eq_false (by simp only at e4; omega)
      simp only at e3
      subst e1
      subst e3
      clear e4
      go_wp2_with fail
      exact ⟨⟨k + 1, by go_num, by omega, HBr.out⟩, by simp [intOf]; omega⟩
end Go.Proofs.Ytgelchbbknckcaa
