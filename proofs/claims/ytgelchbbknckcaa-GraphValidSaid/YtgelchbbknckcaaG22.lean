/- The law GraphLinks. -/
import Derived.Test.YtgelchbbknckcaaG21
namespace Go.Proofs.Ytgelchbbknckcaa
open Go.RowKit Go.Sort

theorem info40 : (Try.prog.info? 40).map (fun i => (i.zero, i.size, i.bytes)) = some (some (.agg (asV 0 0 nd0).toArray), 7, 56) := by kernel_rfl
theorem size40 (cs : Array Value) (h : cs.size = 7) : (Try.prog.info? 40).map (·.size) = some cs.size := by rw [h]; kernel_rfl
theorem as_one (f t : Int) (n : Nd) : (asV f t n).toArray.all (·.oneCell') = true := all_oneCell_toArray fun v hv => by
  simp only [asV, ndV, Nd.list, List.map_cons, List.map_nil, List.mem_append, List.mem_cons, List.not_mem_nil, or_false] at hv
  rcases hv with (rfl | rfl) | rfl | rfl | rfl | rfl | rfl <;> rfl
theorem size53c : Try.prog.cellsOf 53 = 8 := by kernel_rfl
theorem elem31 : Try.prog.elem 31 = 53 := by kernel_rfl
theorem run_links_head (a : Option Addr) (n c m : Nat) (hm : m ≤ c) (w : World) : (Instr.sliceAt 31 (.slice a n c) none (some (.int .i64 (m : Int))) none).run Try.prog w = .ok (.slice a m c) w := by
  obtain ⟨iE, hi'⟩ : ∃ i, Try.prog.info? 53 = some i := by
    have := size53c
    unfold Program.cellsOf at this
    cases h : Try.prog.info? 53 with
    | none => simp [h] at this
    | some i => exact ⟨i, rfl⟩
  rw [run_sliceAt_slice _ _ _ _ _ _ (by rw [elem31]; exact Try.underlying31), run_slice_h (P := Try.prog) w 31 a n c Try.underlying31 .i64 (m : Int) (by omega) (by omega), elem31, run_sizeOf w hi', size53c]
  simp only [Result.andThen_ok, sliced, Int.toNat_natCast, Nat.zero_mul, Nat.sub_zero]
  have h0 : ∀ x : Addr, x.add 0 = x := fun x => by obtain ⟨b, o, s⟩ := x; unfold Addr.add; split <;> simp_all
  have : (if c = 0 then a else a.map fun x => x.add 0) = a := by
    split
    · rfl
    · cases a with
      | none => rfl
      | some x => simp [h0]
  rw [this]
theorem val_slice_hi {P : Program} {Q : Exit → Act → World → Prop} {o : Oper} {a : Act} {W : World} {R : Value → World → Prop} (t : TypeId) (x y : Operand) (ho : o.op = .slice t x none (some y) none) (A : Option Addr) (n c m : Nat) (hx : a.eval x = .slice A n c) (hy : a.eval y = .int .i64 (m : Int)) {u : Value} (hr : (Instr.sliceAt t (.slice A n c) none (some (.int .i64 (m : Int))) none).run P W = .ok u W) (h : R u W) : Val P Q o a W (fun v W' => Below W.heap.size W W' ∧ R v W') := fun K hK => by
  unfold Oper.wp execOp
  simp only [ho, Option.map_none, Option.map_some, hx, hy, Sem.run_bind, hr, Result.andThen_ok]
  exact hK _ _ ⟨Below.refl _ _, h⟩
theorem Rd.headN {α : Type} {f : α → List Value} {sz : Nat} {w : World} {n m : Nat} {A : Option Addr} {xs : List α} (h : Rd w sz A n (xs.flatMap f)) (hf : ∀ x, (f x).length = sz) (hm : m ≤ n) : Rd w sz A m ((xs.take m).flatMap f) := by
  have hlen : ∀ l : List α, (l.flatMap f).length = l.length * sz := fun l => by
    induction l with
    | nil => simp
    | cons a l ih => rw [List.flatMap_cons, List.length_append, ih, hf, List.length_cons, Nat.add_mul, Nat.one_mul, Nat.add_comm]
  have hpre : ∀ (j : Nat) (u : Value), ((xs.take m).flatMap f)[j]? = some u → (xs.flatMap f)[j]? = some u := fun j u hu => by
    rw [← List.take_append_drop m xs, List.flatMap_append, List.getElem?_append_left (List.getElem?_eq_some_iff.1 hu).1]
    exact hu
  obtain ⟨h1, h2, h3⟩ := h
  rw [hlen] at h1
  by_cases hs : sz = 0
  · subst hs
    refine ⟨by rw [hlen]; simp, by omega, fun hp => ?_⟩
    obtain ⟨b, off, e, h4⟩ := h3 (by omega)
    exact ⟨b, off, e, fun j u hu => h4 j u (hpre j u hu)⟩
  · have hxl : xs.length = n := Nat.eq_of_mul_eq_mul_right (by omega) h1
    refine ⟨by rw [hlen, List.length_take, hxl, Nat.min_eq_left hm], by omega, fun hp => ?_⟩
    obtain ⟨b, off, e, h4⟩ := h3 (by omega)
    exact ⟨b, off, e, fun j u hu => h4 j u (hpre j u hu)⟩
theorem Vg.take {vs : List Int} {ls : List Ln} (h : Vg vs ls) (q : Nat) : Vg vs (ls.take q) :=
  ⟨h.n, by have := h.m; rw [List.length_take]; omega, h.inc, fun k l hk => h.ln k l (by rw [List.getElem?_take] at hk; split at hk; exact hk; cases hk)⟩
theorem lks_take (vs : List Int) (lim : Nd) (ls : List Ln) (q : Nat) : lksN vs lim (ls.take q) = (lksN vs lim ls).take q := by unfold lksN; rw [List.map_take]
theorem Gr.Walk.untake {ls : List Gr.Lk} {q s t : Nat} {w : Gr.Wy} (h : Gr.Walk (ls.take q) s t w) : Gr.Walk ls s t w :=
  h.mono fun k u t d hk => by rw [List.getElem?_take] at hk; split at hk; exact hk; cases hk
theorem Gr.Walk.links {ls : List Gr.Lk} {s t : Nat} {w : Gr.Wy} (h : Gr.Walk ls s t w) : ∀ k ∈ w.2, k < ls.length := by
  induction h with
  | nil => simp
  | snoc _ hk ih =>
    intro k hm
    simp only [List.mem_append, List.mem_singleton] at hm
    rcases hm with hm | rfl
    · exact ih k hm
    · exact (List.getElem?_eq_some_iff.1 hk).1
theorem Gr.Walk.take {ls : List Gr.Lk} {q s t : Nat} {w : Gr.Wy} (h : Gr.Walk ls s t w) : (∀ k ∈ w.2, k < q) → Gr.Walk (ls.take q) s t w := by
  induction h with
  | nil => exact fun _ => .nil
  | snoc _ hk ih =>
    intro hm
    exact .snoc (ih fun k hk' => hm k (by simp [hk'])) (by rw [List.getElem?_take, if_pos (hm _ (by simp))]; exact hk)
theorem path_links {vs : List Int} {ls : List Ln} {lim : Nd} {a b : Int} (hv : Vg vs ls) (h : PathOk vs ls lim a b) : (pathC vs ls lim a b).1.length ≤ 16 ∧ ∀ k ∈ (pathC vs ls lim a b).1, k < 64 := by
  rcases h with ⟨_, h, _⟩ | ⟨s, t, _, _, ⟨_, h, _⟩ | ⟨w, hw, hl, h, _⟩⟩
  · rw [h]; simp
  · rw [h]; simp
  · rw [h]
    have h1 := hv.n
    have h2 := hv.m
    have h3 : (lksN vs lim ls).length = ls.length := by unfold lksN; rw [List.length_map]
    exact ⟨by omega, fun k hk => by have := hw.1.links k hk; omega⟩
theorem links_same {vs : List Int} {ls : List Ln} {lim : Nd} {a b : Int} {q : Nat} (hv : Vg vs ls) (hq : ls.length = q + 1) (hp : PathOk vs ls lim a b) (hp' : PathOk vs (ls.take q) lim a b) : q ∉ (pathC vs ls lim a b).1 → (pathC vs ls lim a b).1 = (pathC vs (ls.take q) lim a b).1 ∧ (pathC vs ls lim a b).2.1 = (pathC vs (ls.take q) lim a b).2.1 ∧ (pathC vs ls lim a b).2.2 = (pathC vs (ls.take q) lim a b).2.2 := fun hn => by
  have hlen : (lksN vs lim ls).length = q + 1 := by unfold lksN; rw [List.length_map, hq]
  rcases hp with ⟨h0, e1, e2, e3⟩ | ⟨s, t, hs, ht, ⟨hb, e1, e2, e3⟩ | ⟨w, hw, hl, e1, e2, e3⟩⟩
  · have := pathR_none h0 hp'
    simp only [Prod.ext_iff] at this
    exact ⟨by rw [e1, this.1], by rw [e2, this.2.1], by rw [e3, this.2.2]⟩
  · have : Gr.Best (lksN vs lim (ls.take q)) s t none := fun x hx => hb x (by rw [lks_take] at hx; exact hx.untake)
    obtain ⟨f1, f2, f3⟩ := PathR.uniq (hv.take q) hp' (.inr ⟨s, t, hs, ht, .inl ⟨this, rfl, rfl, rfl⟩⟩)
    exact ⟨by rw [e1, f1], by rw [e2, f2], by rw [e3, f3]⟩
  · rw [e1] at hn
    have hlt : ∀ k ∈ w.2, k < q := fun k hk => by
      have h1 := hw.1.links k hk
      have h2 : k ≠ q := fun e => hn (by rw [← e]; exact hk)
      omega
    have : Gr.Best (lksN vs lim (ls.take q)) s t (some w) := by
      rw [lks_take]
      exact ⟨hw.1.take hlt, fun v hv' => hw.2 v hv'.untake⟩
    obtain ⟨f1, f2, f3⟩ := PathR.uniq (hv.take q) hp' (.inr ⟨s, t, hs, ht, .inr ⟨w, this, hl, rfl, rfl, rfl⟩⟩)
    exact ⟨by rw [e1, f1], by rw [e2, f2], by rw [e3, f3]⟩
theorem links_cost {vs : List Int} {ls : List Ln} {lim : Nd} {a b : Int} {q : Nat} (hv : Vg vs ls) (_hq : ls.length = q + 1) (hp : PathOk vs ls lim a b) (hp' : PathOk vs (ls.take q) lim a b) : (pathC vs (ls.take q) lim a b).2.2 = 0 → (pathC vs ls lim a b).2.1 ≤ (pathC vs (ls.take q) lim a b).2.1 := fun he => by
  rcases hp' with ⟨_, _, _, h⟩ | ⟨s, t, hs, ht, ⟨_, _, _, h⟩ | ⟨y, hy, _, _, hk, _⟩⟩
  · omega
  · omega
  have hy1 : Gr.Walk (lksN vs lim ls) s t y := by have := hy.1; rw [lks_take] at this; exact this.untake
  rcases hp with ⟨h, _⟩ | ⟨s', t', hs', ht', ⟨h, _⟩ | ⟨w, hw, _, _, hk', _⟩⟩
  · rcases h with h | h
    · exact absurd (List.mem_of_getElem? hs) h
    · exact absurd (List.mem_of_getElem? ht) h
  · obtain rfl := hv.uniq hs hs'
    obtain rfl := hv.uniq ht ht'
    exact absurd hy1 (h _)
  · obtain rfl := hv.uniq hs hs'
    obtain rfl := hv.uniq ht ht'
    have := (hw.2 _ hy1).cost
    rw [hk, hk']
    omega

set_option maxRecDepth 100000 in
set_option maxHeartbeats 4000000 in
theorem GraphLinks_any (A : Option Addr) (n c : Nat) (B : Option Addr) (m d : Nat) (xs : List UInt8) (ys : List R6) (m0 m1 m2 : UInt8) (w : World) (hr : Rd w 1 A n (xs.map byteV)) (hl : Rd w 6 B m (ys.flatMap r6V)) :
    Calls Try.prog 9 #[.agg (grV A n c B m d).toArray, .agg #[byteV m0, byteV m1, byteV m2]] w fun e w' => e = .returned (.bool true) ∧ Below w.heap.size w w' := by
  obtain ⟨i28, hi28, hz28, hs28, hy28⟩ := info_parts info28
  obtain ⟨i33, hi33, hz33, hs33, hy33⟩ := info_parts info33
  obtain ⟨i44, hi44, hz44, hs44, hy44⟩ := info_parts info44
  obtain ⟨i53, hi53, hz53, hs53, hy53⟩ := info_parts info53
  obtain ⟨d25, hd25, hrow25⟩ := und25
  obtain ⟨d28, hd28, hrow28⟩ := und28
  obtain ⟨d33, hd33, hrow33⟩ := und33
  obtain ⟨d44, hd44, hrow44⟩ := und44
  obtain ⟨d53, hd53, hrow53⟩ := und53
  obtain ⟨i40, hi40, hz40, hs40, hy40⟩ := info_parts info40
  obtain ⟨d40, hd40, hrow40⟩ := und40
  have hxl := hr.len1
  obtain ⟨N, hN⟩ : ∃ N, N = min n 7 := ⟨_, rfl⟩
  obtain ⟨M, hM⟩ : ∃ M, M = madeM xs ys := ⟨_, rfl⟩
  obtain ⟨VS, hVS⟩ : ∃ VS, VS = verN xs (min n 7) := ⟨_, rfl⟩
  obtain ⟨LS, hLS⟩ : ∃ LS, LS = madeL xs ys := ⟨_, rfl⟩
  obtain ⟨ND, hND⟩ : ∃ x, x = needN m0 m1 m2 := ⟨_, rfl⟩
  have hvg : Vg VS LS := by rw [hVS, hLS]; exact made_vg xs ys hxl
  have hbd : ∀ x ∈ VS, 1 ≤ x ∧ x ≤ 21 := fun x hx => by rw [hVS] at hx; have := verN_bd hx; omega
  have hVl : VS.length = N := by rw [hVS, hN, verN_len]
  have hLl : LS.length = M := by rw [hLS, hM, madeL_len]
  have hM14 : M ≤ 14 := by rw [hM]; exact madeM_le xs ys
  have Hr := Lib.hid hr
  have Hl := Lib.hid hl
  have Hvg := Lib.hid hvg
  have Hbd := Lib.hid hbd
  have HVl := Lib.hid hVl
  have HLl := Lib.hid hLl
  have HNe := Lib.hid hN
  have hN7 : N ≤ 7 := by omega
  have hMade : ∀ W : World, Rd W 1 A n (xs.map byteV) → Rd W 6 B m (ys.flatMap r6V) → Calls Try.prog 12 #[.agg (grV A n c B m d).toArray] W fun e w' => (∃ A' c' B' d', e = .returned (.agg (grV A' N c' B' M d').toArray) ∧ TRd w' 3 1 A' N (VS.map intV) ∧ TRd w' 53 8 B' M (LS.flatMap lnV) ∧ M ≤ d') ∧ Below W.heap.size W w' := fun W h1 h2 => by
    rw [hN, hM, hVS, hLS]; exact Made_C2 A n c B m d xs ys W h1 h2
  have HMade := Lib.hid hMade
  have hHNeed : ∀ W : World, Calls Try.prog 13 #[.agg #[byteV m0, byteV m1, byteV m2]] W fun e w' => e = .returned (.agg (ndV ND).toArray) ∧ Below W.heap.size W w' := fun W => by rw [hND]; exact Need_any m0 m1 m2 W
  have HNeed := Lib.hid hHNeed
  clear hr hl hvg hbd hxl hN hM hVS hLS hMade hVl hLl hHNeed hND
  go_enter Try.func9, Try.ntmps9
  go_upto_region 1 with fail
  try simp only [World.size_alloc]
  obtain ⟨v1, hv1⟩ : ∃ v, v = (w.alloc (.cells (grV A n c B m d).toArray 25)).alloc (.cells #[byteV m0, byteV m1, byteV m2] 36) := ⟨_, rfl⟩
  have hB : Below w.heap.size w v1 := by rw [hv1]; exact (((Below.refl _ _).alloc (Nat.le_refl _) _).alloc (by simp) _)
  have hC : Blk v1 (w.heap.size) 25 (grV A n c B m d).toArray := by
    have := Blk.new w 25 (grV A n c B m d).toArray
    rw [hv1]; exact (this.alloc _)
  have hX0 : Blk v1 (w.heap.size + 1) 36 #[byteV m0, byteV m1, byteV m2] := by
    have := Blk.new (w.alloc (.cells (grV A n c B m d).toArray 25)) 36 #[byteV m0, byteV m1, byteV m2]
    rw [World.size_alloc] at this
    rw [hv1]; exact this
  rw [← hv1]
  clear hv1
  have HC := Lib.hid hC
  have HX0 := Lib.hid hX0
  have HB := Lib.hid hB
  clear hC hX0 hB
  go_upto_region 2 with fail
  refine (sanity_any v1).mono ?_
  rintro e v2 ⟨rfl, hb2⟩
  replace HC := Lib.hid (HC.out.below hb2 HC.out.lt)
  replace HX0 := Lib.hid (HX0.out.below hb2 HX0.out.lt)
  replace HB := Lib.hid (HB.out.trans (hb2.mono HB.out.size))
  clear hb2
  replace Hr := Lib.hid (Hr.out.below HB.out)
  replace Hl := Lib.hid (Hl.out.below HB.out)
  go_upto_region 2 with fail
  go_cut [6, 7] from 18 to 21 (fun t6 t7 wx => ∃ (BG BN0 : Nat) (GA : Option Addr) (gc : Nat) (GB : Option Addr) (gd : Nat), t6 = .pointer (some ⟨BG, 0, none⟩) ∧ t7 = .pointer (some ⟨BN0, 0, none⟩) ∧ Blk wx BG 33 (grV GA N gc GB M gd).toArray ∧ Blk wx BN0 28 (ndV ND).toArray ∧ TRd wx 3 1 GA N (VS.map intV) ∧ TRd wx 53 8 GB M (LS.flatMap lnV) ∧ M ≤ gd ∧ Below v2.heap.size v2 wx)
  case first =>
    refine wp_region_flow_tail 6 [18, 19, 20, 21, 6, 7] [(Spec.is (.agg (grV A n c B m d).toArray), false), (spGr2 N M VS LS, false), (Spec.is (.agg #[byteV m0, byteV m1, byteV m2]), false), (Spec.is (.agg (ndV ND).toArray), false), (spVar 33 (grV none 0 0 none 0 0).toArray, true), (spVar 28 (ndV nd0).toArray, true)] 109 (by kernel_rfl) (List.take_append_drop _ _) rfl (by kernel_rfl) (by kernel_rfl) (by kernel_rfl) (by decide) (by kernel_rfl) (by kernel_rfl) (fun _ _ d _ _ h => by cases d <;> exact h) rfl (by decide) rfl (by decide) (by kernel_rfl) ?_ ?_
    · refine ⟨?_, ?_, ?_, ?_, ?_, ?_, trivial⟩
      · intro a W hE hb hs
        have h2 : a.eval (.tmp 2) = .pointer (some ⟨w.heap.size, 0, none⟩) := hb 2 (by decide)
        refine flow0 rfl ?_
        exact val_load_row 25 _ rfl w.heap.size 0 h2 (grV A n c B m d) d25 (Blk.range (HC.out.below (ext_below hE) HC.out.lt)) hd25 hrow25 (by rw [grV_len]; kernel_rfl) ⟨rfl, trivial⟩
      · intro a W hE hb hs
        have h18 : a.eval (.tmp 18) = .agg (grV A n c B m d).toArray := hs 0 (by decide)
        refine flow0 rfl ?_
        exact val_call 12 _ _ rfl (by kernel_rfl) [.agg (grV A n c B m d).toArray] (by show [a.eval (.tmp 18)] = _; rw [h18]) ((HMade.out W (Hr.out.below (ext_below hE)) (Hl.out.below (ext_below hE))).mono (by rintro e W' ⟨⟨A', c', B', d', rfl, h1, h2, h3⟩, hb⟩; exact ⟨_, rfl, hb, ⟨A', c', B', d', rfl, h1, h2, h3⟩, trivial⟩))
      · intro a W hE hb hs
        have h3 : a.eval (.tmp 3) = .pointer (some ⟨w.heap.size + 1, 0, none⟩) := hb 3 (by decide)
        refine flow0 rfl ?_
        exact val_load_row 36 _ rfl (w.heap.size + 1) 0 h3 [byteV m0, byteV m1, byteV m2] _ (Blk.range (HX0.out.below (ext_below hE) HX0.out.lt)) und36 rfl (by kernel_rfl) ⟨rfl, trivial⟩
      · intro a W hE hb hs
        have h20 : a.eval (.tmp 20) = .agg #[byteV m0, byteV m1, byteV m2] := hs 2 (by decide)
        refine flow0 rfl ?_
        exact val_call 13 _ _ rfl (by kernel_rfl) [.agg #[byteV m0, byteV m1, byteV m2]] (by show [a.eval (.tmp 20)] = _; rw [h20]) ((HNeed.out W).mono (by rintro e W' ⟨rfl, hb⟩; exact ⟨_, rfl, hb, rfl, trivial⟩))
      · intro a W hE hb hs
        refine flow0 rfl ?_
        exact val_alloc _ rfl (grV none 0 0 none 0 0).toArray _ i33 hi33 hz33 rfl ⟨⟨_, rfl, Blk.new _ _ _⟩, _, rfl, Nat.le_refl _, by rw [World.size_alloc]; omega⟩
      · intro a W hE hb hs
        refine flow0 rfl ?_
        exact val_alloc _ rfl (ndV nd0).toArray _ i28 hi28 hz28 rfl ⟨⟨_, rfl, Blk.new _ _ _⟩, _, rfl, Nat.le_refl _, by rw [World.size_alloc]; omega⟩
    · intro f W hbW hT hp hd
      obtain ⟨GA, gc, GB, gd, e19, hg1, hg2, hg3⟩ : ∃ (A : Option Addr) (c : Nat) (B : Option Addr) (d : Nat), f 19 = .agg (grV A N c B M d).toArray ∧ TRd W 3 1 A N (VS.map intV) ∧ TRd W 53 8 B M (LS.flatMap lnV) ∧ M ≤ d := hT 1 (by decide)
      have e21 : f 21 = .agg (ndV ND).toArray := hT 3 (by decide)
      obtain ⟨BG, eBG, hBG⟩ : ∃ B, f 6 = .pointer (some ⟨B, 0, none⟩) ∧ Blk W B 33 (grV none 0 0 none 0 0).toArray := hT 4 (by decide)
      have lBG : v2.heap.size ≤ BG := by
        obtain ⟨b', h1, h2, _⟩ := hp 4 (by decide) rfl
        have h1' : f 6 = .pointer (some ⟨b', 0, none⟩) := h1
        rw [eBG] at h1'
        injection h1' with h; injection h with h; injection h with h
        omega
      obtain ⟨BN0, eBN0, hBN0⟩ : ∃ B, f 7 = .pointer (some ⟨B, 0, none⟩) ∧ Blk W B 28 (ndV nd0).toArray := hT 5 (by decide)
      have lBN0 : v2.heap.size ≤ BN0 := by
        obtain ⟨b', h1, h2, _⟩ := hp 5 (by decide) rfl
        have h1' : f 7 = .pointer (some ⟨b', 0, none⟩) := h1
        rw [eBN0] at h1'
        injection h1' with h; injection h with h; injection h with h
        omega
      have nBGBN0 : BG ≠ BN0 := hBG.ne hBN0 (by decide)
      have nBN0BG : BN0 ≠ BG := fun e => nBGBN0 e.symm
      have hbZ := hbW
      have HK0 := (KeptIn.refl (fun k => k ≠ BG) (W)).setRow (g := BG) (fun h => h rfl) (grV GA N gc GB M gd).toArray
      have sBG := hBG
      replace hg1 := hg1.kept hBG (by decide) HK0
      replace hg2 := hg2.kept hBG (by decide) HK0
      replace hBN0 := hBN0.keptIn HK0 nBN0BG
      replace hBG : Blk ((W).setRow BG (grV GA N gc GB M gd).toArray) BG 33 (grV GA N gc GB M gd).toArray := setRow_heap _ _ _ _ _ _ sBG
      replace hbZ := Below.setRow hbZ lBG (grV GA N gc GB M gd).toArray
      have HK1 := (KeptIn.refl (fun k => k ≠ BN0) ((W).setRow BG (grV GA N gc GB M gd).toArray)).setRow (g := BN0) (fun h => h rfl) (ndV ND).toArray
      have sBN0 := hBN0
      replace hg1 := hg1.kept hBN0 (by decide) HK1
      replace hg2 := hg2.kept hBN0 (by decide) HK1
      replace hBG := hBG.keptIn HK1 nBGBN0
      replace hBN0 : Blk (((W).setRow BG (grV GA N gc GB M gd).toArray).setRow BN0 (ndV ND).toArray) BN0 28 (ndV ND).toArray := setRow_heap _ _ _ _ _ _ sBN0
      replace hbZ := Below.setRow hbZ lBN0 (ndV ND).toArray
      simp only [List.drop_succ_cons, List.drop_zero]
      simp only [putV, List.foldl_cons, List.foldl_nil, Act.put, List.setIfInBounds_toArray, List.set_cons_succ, List.set_cons_zero]
      rw [eBG, eBN0, e19, e21]
      refine wpList_store_row rfl 33 (.tmp 6) (.tmp 19) rfl BG (grV GA N gc GB M gd).toArray rfl rfl 33 (grV none 0 0 none 0 0).toArray sBG (size33 _ rfl) rfl (gr_one _ _ _ _ _ _) ?_
      refine wpList_store_row rfl 28 (.tmp 7) (.tmp 21) rfl BN0 (ndV ND).toArray rfl rfl 28 (ndV nd0).toArray sBN0 (size28 _ rfl) rfl (nd_one _) ?_
      refine wpList_nil ?_
      have HX := Lib.hid (And.intro hBG (And.intro hBN0 (And.intro hg1 (And.intro hg2 (And.intro hg3 hbZ)))))
      clear hT hp hd HK0 HK1 sBG sBN0 hBG hBN0 hg1 hg2 hbZ hbW
      go_wp2_with fail
      go_meet
      exact ⟨BG, BN0, GA, gc, GB, gd, rfl, rfl, HX.out⟩
  case' rest => skip
  obtain ⟨BG, BN0, GA, gc, GB, gd, rfl, rfl, gBG, gBN0, hR, hL, hcap, hb3⟩ := hcut
  obtain ⟨v3, h_⟩ : ∃ v, v = wc := ⟨_, rfl⟩
  subst h_
  have HG := Lib.hid gBG
  have HBN0 := Lib.hid gBN0
  have HRd := Lib.hid hR
  have HLd := Lib.hid hL
  clear hR hL gBG gBN0
  replace HB := Lib.hid (HB.out.trans (hb3.mono HB.out.size))
  clear hb3 HC HX0 Hr Hl HMade HNeed
  have g1 : v3.cell? ⟨BG, 1, none⟩ = some (.slice GB M gd) := by rw [HG.out.cell]; rfl
  by_cases hM0 : M = 0
  · rw [hM0] at g1
    clear hM0
    go_wp2_with fail
    go_ret
    exact ⟨rfl, HB.out⟩
  obtain ⟨Q, hQ⟩ : ∃ Q, M = Q + 1 := ⟨M - 1, by omega⟩
  subst hQ
  go_upto_region 6 with fail
  clear g1 hM0
  go_cut [9] from 29 to 35 (fun t9 wx => ∃ (BL : Nat), t9 = .pointer (some ⟨BL, 0, none⟩) ∧ Blk wx BL 33 (grV GA N gc GB Q gd).toArray ∧ Below v3.heap.size v3 wx)
  case first =>
    refine wp_region_flow_tail 8 [29, 30, 31, 32, 33, 34, 35, 9] [(Spec.is (.pointer (some ⟨BG, 0, none⟩)), false), (Spec.is (.slice GA N gc), false), (Spec.is (.pointer (some ⟨BG, 1, none⟩)), false), (Spec.is (.slice GB (Q + 1) gd), false), (Spec.is (.int .i64 (Q : Int)), false), (Spec.is (.slice GB Q gd), false), (Spec.is (.agg (grV GA N gc GB Q gd).toArray), false), (spVar 33 (grV none 0 0 none 0 0).toArray, true)] 109 (by kernel_rfl) (List.take_append_drop _ _) rfl (by kernel_rfl) (by kernel_rfl) (by kernel_rfl) (by decide) (by kernel_rfl) (by kernel_rfl) (fun _ _ d _ _ h => by cases d <;> exact h) rfl (by decide) rfl (by decide) (by kernel_rfl) ?_ ?_
    · refine ⟨?_, ?_, ?_, ?_, ?_, ?_, ?_, ?_, trivial⟩
      · intro a W hE hb hs
        have h6 : a.eval (.tmp 6) = .pointer (some ⟨BG, 0, none⟩) := hb 6 (by decide)
        refine flow0 rfl ?_
        intro K hK
        unfold Oper.wp execOp
        simp only [h6]
        simp [go_sem]
        exact hK _ _ ⟨Below.refl _ _, rfl, trivial⟩
      · intro a W hE hb hs
        have h29 : a.eval (.tmp 29) = .pointer (some ⟨BG, 0, none⟩) := hs 0 (by decide)
        refine flow0 rfl ?_
        have g0 : W.cell? ⟨BG, 0, none⟩ = some (.slice GA N gc) := by rw [(HG.out.below (ext_below hE) HG.out.lt).cell]; rfl
        intro K hK
        unfold Oper.wp execOp
        simp only [h29]
        simp [go_sem, g0]
        exact hK _ _ ⟨Below.refl _ _, rfl, trivial⟩
      · intro a W hE hb hs
        have h6 : a.eval (.tmp 6) = .pointer (some ⟨BG, 0, none⟩) := hb 6 (by decide)
        refine flow0 rfl ?_
        intro K hK
        unfold Oper.wp execOp
        simp only [h6]
        simp [go_sem]
        exact hK _ _ ⟨Below.refl _ _, rfl, trivial⟩
      · intro a W hE hb hs
        have h31 : a.eval (.tmp 31) = .pointer (some ⟨BG, 1, none⟩) := hs 2 (by decide)
        refine flow0 rfl ?_
        have g0 : W.cell? ⟨BG, 1, none⟩ = some (.slice GB (Q + 1) gd) := by rw [(HG.out.below (ext_below hE) HG.out.lt).cell]; rfl
        intro K hK
        unfold Oper.wp execOp
        simp only [h31]
        simp [go_sem, g0]
        exact hK _ _ ⟨Below.refl _ _, rfl, trivial⟩
      · intro a W hE hb hs
        have h8 : a.eval (.tmp 8) = .int .i64 (Q : Int) := hb 8 (by decide)
        refine flow0 rfl ?_
        exact val_move _ rfl _ h8 ⟨rfl, trivial⟩
      · intro a W hE hb hs
        have h32 : a.eval (.tmp 32) = .slice GB (Q + 1) gd := hs 3 (by decide)
        have h33 : a.eval (.tmp 33) = .int .i64 (Q : Int) := hs 4 (by decide)
        refine flow0 rfl ?_
        exact val_slice_hi _ _ _ rfl GB (Q + 1) gd Q h32 h33 (run_links_head _ _ _ _ (by omega) _) ⟨rfl, trivial⟩
      · intro a W hE hb hs
        have h30 : a.eval (.tmp 30) = .slice GA N gc := hs 1 (by decide)
        have h34 : a.eval (.tmp 34) = .slice GB Q gd := hs 5 (by decide)
        refine flow0 rfl ?_
        exact val_build 33 _ rfl [(0, .slice GA N gc), (1, .slice GB Q gd)] (by show [(0, a.eval (.tmp 30)), (1, a.eval (.tmp 34))] = _; rw [h30, h34]) _ (built33n _ _ _ _ _ _) ⟨rfl, trivial⟩
      · intro a W hE hb hs
        refine flow0 rfl ?_
        exact val_alloc _ rfl (grV none 0 0 none 0 0).toArray _ i33 hi33 hz33 rfl ⟨⟨_, rfl, Blk.new _ _ _⟩, _, rfl, Nat.le_refl _, by rw [World.size_alloc]; omega⟩
    · intro f W hbW hT hp hd
      have e35 : f 35 = .agg (grV GA N gc GB Q gd).toArray := hT 6 (by decide)
      obtain ⟨BL, eBL, hBL⟩ : ∃ B, f 9 = .pointer (some ⟨B, 0, none⟩) ∧ Blk W B 33 (grV none 0 0 none 0 0).toArray := hT 7 (by decide)
      have lBL : v3.heap.size ≤ BL := by
        obtain ⟨b', h1, h2, _⟩ := hp 7 (by decide) rfl
        have h1' : f 9 = .pointer (some ⟨b', 0, none⟩) := h1
        rw [eBL] at h1'
        injection h1' with h; injection h with h; injection h with h
        omega
      have hbZ := hbW
      have HK0 := (KeptIn.refl (fun k => k ≠ BL) (W)).setRow (g := BL) (fun h => h rfl) (grV GA N gc GB Q gd).toArray
      have sBL := hBL
      replace hBL : Blk ((W).setRow BL (grV GA N gc GB Q gd).toArray) BL 33 (grV GA N gc GB Q gd).toArray := setRow_heap _ _ _ _ _ _ sBL
      replace hbZ := Below.setRow hbZ lBL (grV GA N gc GB Q gd).toArray
      simp only [List.drop_succ_cons, List.drop_zero]
      simp only [putV, List.foldl_cons, List.foldl_nil, Act.put, List.setIfInBounds_toArray, List.set_cons_succ, List.set_cons_zero]
      rw [eBL, e35]
      refine wpList_store_row rfl 33 (.tmp 9) (.tmp 35) rfl BL (grV GA N gc GB Q gd).toArray rfl rfl 33 (grV none 0 0 none 0 0).toArray sBL (size33 _ rfl) rfl (gr_one _ _ _ _ _ _) ?_
      refine wpList_nil ?_
      have HX := Lib.hid (And.intro hBL hbZ)
      clear hT hp hd HK0 sBL hBL hbZ hbW
      go_wp2_with fail
      go_meet
      exact ⟨BL, rfl, HX.out⟩
  case' rest => skip
  obtain ⟨BL, rfl, hBL, hb4⟩ := hcut
  obtain ⟨v4, h_⟩ : ∃ v, v = wc := ⟨_, rfl⟩
  subst h_
  have HBL := Lib.hid hBL
  clear hBL
  replace HG := Lib.hid (HG.out.below hb4 HG.out.lt)
  replace HBN0 := Lib.hid (HBN0.out.below hb4 HBN0.out.lt)
  replace HRd := Lib.hid (HRd.out.below hb4)
  replace HLd := Lib.hid (HLd.out.below hb4)
  replace HB := Lib.hid (HB.out.trans (hb4.mono HB.out.size))
  clear hb4
  have HLt := Lib.hid (HLd.out.rd.headN lnV_len (show Q ≤ Q + 1 by omega))
  have Hvt := Lib.hid (Hvg.out.take Q)
  go_wp2_with fail
  go_loopw [10] (fun v10 wr => ∃ i : Nat, v10 = .int .i64 (i : Int) ∧ i ≤ N ∧ Below v4.heap.size v4 wr) (fun v10 _ => N - (intOf v10).toNat)
  case atStart => exact ⟨0, rfl, by omega, Below.refl _ _⟩
  case round =>
    obtain ⟨i, rfl, hiN, hBr⟩ := hrel
    have HBr := Lib.hid hBr
    have g0 : wr.cell? ⟨BG, 0, none⟩ = some (.slice GA N gc) := by rw [(HG.out.below hBr HG.out.lt).cell]; rfl
    clear hBr
    by_cases li : i < N
    rotate_left
    · have HBz := Lib.hid (HB.out.trans (HBr.out.mono HB.out.size))
      have d1 : decide ((i : Int) < (N : Int)) = false := decide_eq_false (by omega)
      have d2 : decide (i < N) = false := decide_eq_false li
      clear li
      go_wp2_with fail
      go_ret
      exact ⟨rfl, HBz.out⟩
    have d0 : decide ((i : Int) < (N : Int)) = true := decide_eq_true (by omega)
    obtain ⟨wo, hwo⟩ : ∃ wo, wo = wr := ⟨_, rfl⟩
    subst hwo
    go_wp2_with fail
    clear d0 g0
    go_loopw [11] (fun v11 wr => ∃ k : Nat, v11 = .int .i64 (k : Int) ∧ k ≤ N ∧ Below v4.heap.size v4 wr) (fun v11 _ => N - (intOf v11).toNat)
    case atStart => exact ⟨0, rfl, by omega, HBr.out⟩
    case round =>
      clear HBr
      obtain ⟨k, rfl, hkN, hBr⟩ := hrel
      have HBr := Lib.hid hBr
      have g0 : wr.cell? ⟨BG, 0, none⟩ = some (.slice GA N gc) := by rw [(HG.out.below hBr HG.out.lt).cell]; rfl
      clear hBr
      by_cases lk : k < N
      rotate_left
      · have d1 : decide ((k : Int) < (N : Int)) = false := decide_eq_false (by omega)
        have d2 : decide (k < N) = false := decide_eq_false lk
        clear lk
        go_wp2_with fail
        exact ⟨⟨i + 1, by go_num, by omega, HBr.out⟩, by simp [intOf]; omega⟩
      have d1 : decide ((k : Int) < (N : Int)) = true := decide_eq_true (by omega)
      go_upto_region 13 with fail
      clear d1 g0
      have hbx := HBr.out
      replace HG := Lib.hid (HG.out.below hbx HG.out.lt)
      replace HBL := Lib.hid (HBL.out.below hbx HBL.out.lt)
      replace HBN0 := Lib.hid (HBN0.out.below hbx HBN0.out.lt)
      replace HRd := Lib.hid (HRd.out.below hbx)
      replace HLd := Lib.hid (HLd.out.below hbx)
      replace HLt := Lib.hid (HLt.out.below hbx)
      replace HB := Lib.hid (HB.out.trans (hbx.mono HB.out.size))
      clear hbx
      obtain ⟨vb, vo, vi, ea, hvi, cvi0⟩ := HRd.out.rd.at_ li
      subst ea
      obtain ⟨_, _, vk, ea, hvk, cvk0⟩ := HRd.out.rd.at_ lk
      cases ea
      have cvi : wr.cell? ⟨vb, vo + i, none⟩ = some (.int .i64 vi) := cvi0
      have cvk : wr.cell? ⟨vb, vo + k, none⟩ = some (.int .i64 vk) := cvk0
      clear cvi0 cvk0 hvi hvk
      go_cut [12] from 50 to 61 (fun t12 wx => ∃ (BA : Nat), t12 = .pointer (some ⟨BA, 0, none⟩) ∧ Blk wx BA 40 (asV vi vk ND).toArray ∧ Below wr.heap.size wr wx)
      case first =>
        refine wp_region_flow_tail 13 [50, 51, 52, 53, 54, 55, 56, 57, 58, 59, 60, 61, 12] [(Spec.is (.pointer (some ⟨BG, 0, none⟩)), false), (Spec.is (.slice (some ⟨vb, vo, none⟩) N gc), false), (Spec.is (.int .i64 (i : Int)), false), (Spec.is (.pointer (some ⟨vb, vo + i, none⟩)), false), (Spec.is (.int .i64 vi), false), (Spec.is (.pointer (some ⟨BG, 0, none⟩)), false), (Spec.is (.slice (some ⟨vb, vo, none⟩) N gc), false), (Spec.is (.int .i64 (k : Int)), false), (Spec.is (.pointer (some ⟨vb, vo + k, none⟩)), false), (Spec.is (.int .i64 vk), false), (Spec.is (.agg (ndV ND).toArray), false), (Spec.is (.agg (asV vi vk ND).toArray), false), (spVar 40 (asV 0 0 nd0).toArray, true)] 109 (by kernel_rfl) (List.take_append_drop _ _) rfl (by kernel_rfl) (by kernel_rfl) (by kernel_rfl) (by decide) (by kernel_rfl) (by kernel_rfl) (fun _ _ d _ _ h => by cases d <;> exact h) rfl (by decide) rfl (by decide) (by kernel_rfl) ?_ ?_
        · refine ⟨?_, ?_, ?_, ?_, ?_, ?_, ?_, ?_, ?_, ?_, ?_, ?_, ?_, trivial⟩
          · intro a W hE hb hs
            have h6 : a.eval (.tmp 6) = .pointer (some ⟨BG, 0, none⟩) := hb 6 (by decide)
            refine flow0 rfl ?_
            intro K hK
            unfold Oper.wp execOp
            simp only [h6]
            simp [go_sem]
            exact hK _ _ ⟨Below.refl _ _, rfl, trivial⟩
          · intro a W hE hb hs
            have h50 : a.eval (.tmp 50) = .pointer (some ⟨BG, 0, none⟩) := hs 0 (by decide)
            refine flow0 rfl ?_
            have g0 : W.cell? ⟨BG, 0, none⟩ = some (.slice (some ⟨vb, vo, none⟩) N gc) := by rw [(HG.out.below (ext_below hE) HG.out.lt).cell]; rfl
            intro K hK
            unfold Oper.wp execOp
            simp only [h50]
            simp [go_sem, g0]
            exact hK _ _ ⟨Below.refl _ _, rfl, trivial⟩
          · intro a W hE hb hs
            have h10 : a.eval (.tmp 10) = .int .i64 (i : Int) := hb 10 (by decide)
            refine flow0 rfl ?_
            exact val_move _ rfl _ h10 ⟨rfl, trivial⟩
          · intro a W hE hb hs
            have h51 : a.eval (.tmp 51) = .slice (some ⟨vb, vo, none⟩) N gc := hs 1 (by decide)
            have h52 : a.eval (.tmp 52) = .int .i64 (i : Int) := hs 2 (by decide)
            refine flow0 rfl ?_
            intro K hK
            unfold Oper.wp execOp
            simp only [h51, h52]
            simp [go_sem, li]
            exact hK _ _ ⟨Below.refl _ _, rfl, trivial⟩
          · intro a W hE hb hs
            have h53 : a.eval (.tmp 53) = .pointer (some ⟨vb, vo + i, none⟩) := hs 3 (by decide)
            refine flow0 rfl ?_
            have c0 : W.cell? ⟨vb, vo + i, none⟩ = some (.int .i64 vi) := ((ext_below hE).cell (World.block_lt_of_cell? _ _ cvi)).trans cvi
            intro K hK
            unfold Oper.wp execOp
            simp only [h53]
            simp [go_sem, c0]
            exact hK _ _ ⟨Below.refl _ _, rfl, trivial⟩
          · intro a W hE hb hs
            have h6 : a.eval (.tmp 6) = .pointer (some ⟨BG, 0, none⟩) := hb 6 (by decide)
            refine flow0 rfl ?_
            intro K hK
            unfold Oper.wp execOp
            simp only [h6]
            simp [go_sem]
            exact hK _ _ ⟨Below.refl _ _, rfl, trivial⟩
          · intro a W hE hb hs
            have h55 : a.eval (.tmp 55) = .pointer (some ⟨BG, 0, none⟩) := hs 5 (by decide)
            refine flow0 rfl ?_
            have g0 : W.cell? ⟨BG, 0, none⟩ = some (.slice (some ⟨vb, vo, none⟩) N gc) := by rw [(HG.out.below (ext_below hE) HG.out.lt).cell]; rfl
            intro K hK
            unfold Oper.wp execOp
            simp only [h55]
            simp [go_sem, g0]
            exact hK _ _ ⟨Below.refl _ _, rfl, trivial⟩
          · intro a W hE hb hs
            have h11 : a.eval (.tmp 11) = .int .i64 (k : Int) := hb 11 (by decide)
            refine flow0 rfl ?_
            exact val_move _ rfl _ h11 ⟨rfl, trivial⟩
          · intro a W hE hb hs
            have h56 : a.eval (.tmp 56) = .slice (some ⟨vb, vo, none⟩) N gc := hs 6 (by decide)
            have h57 : a.eval (.tmp 57) = .int .i64 (k : Int) := hs 7 (by decide)
            refine flow0 rfl ?_
            intro K hK
            unfold Oper.wp execOp
            simp only [h56, h57]
            simp [go_sem, lk]
            exact hK _ _ ⟨Below.refl _ _, rfl, trivial⟩
          · intro a W hE hb hs
            have h58 : a.eval (.tmp 58) = .pointer (some ⟨vb, vo + k, none⟩) := hs 8 (by decide)
            refine flow0 rfl ?_
            have c0 : W.cell? ⟨vb, vo + k, none⟩ = some (.int .i64 vk) := ((ext_below hE).cell (World.block_lt_of_cell? _ _ cvk)).trans cvk
            intro K hK
            unfold Oper.wp execOp
            simp only [h58]
            simp [go_sem, c0]
            exact hK _ _ ⟨Below.refl _ _, rfl, trivial⟩
          · intro a W hE hb hs
            have h7 : a.eval (.tmp 7) = .pointer (some ⟨BN0, 0, none⟩) := hb 7 (by decide)
            refine flow0 rfl ?_
            exact val_load_row 28 _ rfl BN0 0 h7 (ndV ND) d28 (Blk.range (HBN0.out.below (ext_below hE) HBN0.out.lt)) hd28 hrow28 (by rw [ndV_len]; kernel_rfl) ⟨rfl, trivial⟩
          · intro a W hE hb hs
            have h54 : a.eval (.tmp 54) = .int .i64 vi := hs 4 (by decide)
            have h59 : a.eval (.tmp 59) = .int .i64 vk := hs 9 (by decide)
            have h60 : a.eval (.tmp 60) = .agg (ndV ND).toArray := hs 10 (by decide)
            refine flow0 rfl ?_
            exact val_build 40 _ rfl [(0, .int .i64 vi), (1, .int .i64 vk), (2, .agg (ndV ND).toArray)] (by show [(0, a.eval (.tmp 54)), (1, a.eval (.tmp 59)), (2, a.eval (.tmp 60))] = _; rw [h54, h59, h60]) _ (built40 _ _ _) ⟨rfl, trivial⟩
          · intro a W hE hb hs
            refine flow0 rfl ?_
            exact val_alloc _ rfl (asV 0 0 nd0).toArray _ i40 hi40 hz40 rfl ⟨⟨_, rfl, Blk.new _ _ _⟩, _, rfl, Nat.le_refl _, by rw [World.size_alloc]; omega⟩
        · intro f W hbW hT hp hd
          have e61 : f 61 = .agg (asV vi vk ND).toArray := hT 11 (by decide)
          obtain ⟨BA, eBA, hBA⟩ : ∃ B, f 12 = .pointer (some ⟨B, 0, none⟩) ∧ Blk W B 40 (asV 0 0 nd0).toArray := hT 12 (by decide)
          have lBA : wr.heap.size ≤ BA := by
            obtain ⟨b', h1, h2, _⟩ := hp 12 (by decide) rfl
            have h1' : f 12 = .pointer (some ⟨b', 0, none⟩) := h1
            rw [eBA] at h1'
            injection h1' with h; injection h with h; injection h with h
            omega
          have hbZ := hbW
          have HK0 := (KeptIn.refl (fun k => k ≠ BA) (W)).setRow (g := BA) (fun h => h rfl) (asV vi vk ND).toArray
          have sBA := hBA
          replace hBA : Blk ((W).setRow BA (asV vi vk ND).toArray) BA 40 (asV vi vk ND).toArray := setRow_heap _ _ _ _ _ _ sBA
          replace hbZ := Below.setRow hbZ lBA (asV vi vk ND).toArray
          simp only [List.drop_succ_cons, List.drop_zero]
          simp only [putV, List.foldl_cons, List.foldl_nil, Act.put, List.setIfInBounds_toArray, List.set_cons_succ, List.set_cons_zero]
          rw [eBA, e61]
          refine wpList_store_row rfl 40 (.tmp 12) (.tmp 61) rfl BA (asV vi vk ND).toArray rfl rfl 40 (asV 0 0 nd0).toArray sBA (size40 _ rfl) rfl (as_one _ _ _) ?_
          refine wpList_nil ?_
          have HX := Lib.hid (And.intro hBA hbZ)
          clear hT hp hd HK0 sBA hBA hbZ hbW
          go_wp2_with fail
          go_meet
          exact ⟨BA, rfl, HX.out⟩
      case' rest => skip
      obtain ⟨BA, rfl, hBA, hbn⟩ := hcut
      obtain ⟨u4, h_⟩ : ∃ v, v = wc := ⟨_, rfl⟩
      subst h_
      have HBA := Lib.hid hBA
      clear hBA cvi cvk
      replace HBr := Lib.hid (HBr.out.trans (hbn.mono HBr.out.size))
      replace HG := Lib.hid (HG.out.below hbn HG.out.lt)
      replace HBL := Lib.hid (HBL.out.below hbn HBL.out.lt)
      replace HRd := Lib.hid (HRd.out.below hbn)
      replace HLd := Lib.hid (HLd.out.below hbn)
      replace HLt := Lib.hid (HLt.out.below hbn)
      replace HB := Lib.hid (HB.out.trans (hbn.mono HB.out.size))
      clear hbn
      go_upto_region 14 with fail
      go_cut [13, 14] from 62 to 67 (fun t13 t14 wx => ∃ (B13 B14 : Nat) (A1 A2 : Option Addr) (c1 c2 : Nat), t13 = .pointer (some ⟨B13, 0, none⟩) ∧ t14 = .pointer (some ⟨B14, 0, none⟩) ∧ Blk wx B13 44 (rsV A1 (pathC VS LS ND vi vk).1.length c1 (pathC VS LS ND vi vk).2.1 (pathC VS LS ND vi vk).2.2).toArray ∧ Blk wx B14 44 (rsV A2 (pathC VS (LS.take Q) ND vi vk).1.length c2 (pathC VS (LS.take Q) ND vi vk).2.1 (pathC VS (LS.take Q) ND vi vk).2.2).toArray ∧ TRd wx 3 1 A1 (pathC VS LS ND vi vk).1.length ((castL (pathC VS LS ND vi vk).1).map intV) ∧ TRd wx 3 1 A2 (pathC VS (LS.take Q) ND vi vk).1.length ((castL (pathC VS (LS.take Q) ND vi vk).1).map intV) ∧ PathOk VS LS ND vi vk ∧ PathOk VS (LS.take Q) ND vi vk ∧ Below u4.heap.size u4 wx)
      case first =>
        refine wp_region_flow_tail 8 [62, 63, 64, 65, 66, 67, 13, 14] [(Spec.is (.agg (grV (some ⟨vb, vo, none⟩) N gc GB (Q + 1) gd).toArray), false), (Spec.is (.agg (asV vi vk ND).toArray), false), (spPa VS LS ND vi vk, false), (Spec.is (.agg (grV (some ⟨vb, vo, none⟩) N gc GB Q gd).toArray), false), (Spec.is (.agg (asV vi vk ND).toArray), false), (spPa VS (LS.take Q) ND vi vk, false), (spVar 44 (rsV none 0 0 0 0).toArray, true), (spVar 44 (rsV none 0 0 0 0).toArray, true)] 109 (by kernel_rfl) (List.take_append_drop _ _) rfl (by kernel_rfl) (by kernel_rfl) (by kernel_rfl) (by decide) (by kernel_rfl) (by kernel_rfl) (fun _ _ d _ _ h => by cases d <;> exact h) rfl (by decide) rfl (by decide) (by kernel_rfl) ?_ ?_
        · refine ⟨?_, ?_, ?_, ?_, ?_, ?_, ?_, ?_, trivial⟩
          · intro a W hE hb hs
            have h6 : a.eval (.tmp 6) = .pointer (some ⟨BG, 0, none⟩) := hb 6 (by decide)
            refine flow0 rfl ?_
            exact val_load_row 33 _ rfl BG 0 h6 (grV (some ⟨vb, vo, none⟩) N gc GB (Q + 1) gd) d33 (Blk.range (HG.out.below (ext_below hE) HG.out.lt)) hd33 hrow33 (by rw [grV_len]; kernel_rfl) ⟨rfl, trivial⟩
          · intro a W hE hb hs
            have h12 : a.eval (.tmp 12) = .pointer (some ⟨BA, 0, none⟩) := hb 12 (by decide)
            refine flow0 rfl ?_
            exact val_load_row 40 _ rfl BA 0 h12 (asV vi vk ND) d40 (Blk.range (HBA.out.below (ext_below hE) HBA.out.lt)) hd40 hrow40 (by rw [asV_len]; kernel_rfl) ⟨rfl, trivial⟩
          · intro a W hE hb hs
            have h62 : a.eval (.tmp 62) = .agg (grV (some ⟨vb, vo, none⟩) N gc GB (Q + 1) gd).toArray := hs 0 (by decide)
            have h63 : a.eval (.tmp 63) = .agg (asV vi vk ND).toArray := hs 1 (by decide)
            refine flow0 rfl ?_
            exact val_call 18 _ _ rfl (by kernel_rfl) [.agg (grV (some ⟨vb, vo, none⟩) N gc GB (Q + 1) gd).toArray, .agg (asV vi vk ND).toArray] (by show [a.eval (.tmp 62), a.eval (.tmp 63)] = _; rw [h62, h63]) ((path_C _ _ _ _ _ _ VS LS vi vk ND W (HRd.out.rd.below (ext_below hE)) (HLd.out.rd.below (ext_below hE)) Hvg.out).mono (by rintro e W' ⟨⟨A', c', rfl, hr, hp⟩, hb⟩; exact ⟨_, rfl, hb, ⟨A', c', rfl, hr, hp⟩, trivial⟩))
          · intro a W hE hb hs
            have h9 : a.eval (.tmp 9) = .pointer (some ⟨BL, 0, none⟩) := hb 9 (by decide)
            refine flow0 rfl ?_
            exact val_load_row 33 _ rfl BL 0 h9 (grV (some ⟨vb, vo, none⟩) N gc GB Q gd) d33 (Blk.range (HBL.out.below (ext_below hE) HBL.out.lt)) hd33 hrow33 (by rw [grV_len]; kernel_rfl) ⟨rfl, trivial⟩
          · intro a W hE hb hs
            have h12 : a.eval (.tmp 12) = .pointer (some ⟨BA, 0, none⟩) := hb 12 (by decide)
            refine flow0 rfl ?_
            exact val_load_row 40 _ rfl BA 0 h12 (asV vi vk ND) d40 (Blk.range (HBA.out.below (ext_below hE) HBA.out.lt)) hd40 hrow40 (by rw [asV_len]; kernel_rfl) ⟨rfl, trivial⟩
          · intro a W hE hb hs
            have h65 : a.eval (.tmp 65) = .agg (grV (some ⟨vb, vo, none⟩) N gc GB Q gd).toArray := hs 3 (by decide)
            have h66 : a.eval (.tmp 66) = .agg (asV vi vk ND).toArray := hs 4 (by decide)
            refine flow0 rfl ?_
            exact val_call 18 _ _ rfl (by kernel_rfl) [.agg (grV (some ⟨vb, vo, none⟩) N gc GB Q gd).toArray, .agg (asV vi vk ND).toArray] (by show [a.eval (.tmp 65), a.eval (.tmp 66)] = _; rw [h65, h66]) ((path_C _ _ _ _ _ _ VS (LS.take Q) vi vk ND W (HRd.out.rd.below (ext_below hE)) (HLt.out.below (ext_below hE)) Hvt.out).mono (by rintro e W' ⟨⟨A', c', rfl, hr, hp⟩, hb⟩; exact ⟨_, rfl, hb, ⟨A', c', rfl, hr, hp⟩, trivial⟩))
          · intro a W hE hb hs
            refine flow0 rfl ?_
            exact val_alloc _ rfl (rsV none 0 0 0 0).toArray _ i44 hi44 hz44 rfl ⟨⟨_, rfl, Blk.new _ _ _⟩, _, rfl, Nat.le_refl _, by rw [World.size_alloc]; omega⟩
          · intro a W hE hb hs
            refine flow0 rfl ?_
            exact val_alloc _ rfl (rsV none 0 0 0 0).toArray _ i44 hi44 hz44 rfl ⟨⟨_, rfl, Blk.new _ _ _⟩, _, rfl, Nat.le_refl _, by rw [World.size_alloc]; omega⟩
        · intro f W hbW hT hp hd
          obtain ⟨A1, c1, e64, hr1, ok1⟩ : ∃ (A : Option Addr) (c : Nat), f 64 = .agg (rsV A (pathC VS LS ND vi vk).1.length c (pathC VS LS ND vi vk).2.1 (pathC VS LS ND vi vk).2.2).toArray ∧ TRd W 3 1 A (pathC VS LS ND vi vk).1.length ((castL (pathC VS LS ND vi vk).1).map intV) ∧ PathOk VS LS ND vi vk := hT 2 (by decide)
          obtain ⟨A2, c2, e67, hr2, ok2⟩ : ∃ (A : Option Addr) (c : Nat), f 67 = .agg (rsV A (pathC VS (LS.take Q) ND vi vk).1.length c (pathC VS (LS.take Q) ND vi vk).2.1 (pathC VS (LS.take Q) ND vi vk).2.2).toArray ∧ TRd W 3 1 A (pathC VS (LS.take Q) ND vi vk).1.length ((castL (pathC VS (LS.take Q) ND vi vk).1).map intV) ∧ PathOk VS (LS.take Q) ND vi vk := hT 5 (by decide)
          obtain ⟨B13, eB13, hB13⟩ : ∃ B, f 13 = .pointer (some ⟨B, 0, none⟩) ∧ Blk W B 44 (rsV none 0 0 0 0).toArray := hT 6 (by decide)
          have lB13 : u4.heap.size ≤ B13 := by
            obtain ⟨b', h1, h2, _⟩ := hp 6 (by decide) rfl
            have h1' : f 13 = .pointer (some ⟨b', 0, none⟩) := h1
            rw [eB13] at h1'
            injection h1' with h; injection h with h; injection h with h
            omega
          obtain ⟨B14, eB14, hB14⟩ : ∃ B, f 14 = .pointer (some ⟨B, 0, none⟩) ∧ Blk W B 44 (rsV none 0 0 0 0).toArray := hT 7 (by decide)
          have lB14 : u4.heap.size ≤ B14 := by
            obtain ⟨b', h1, h2, _⟩ := hp 7 (by decide) rfl
            have h1' : f 14 = .pointer (some ⟨b', 0, none⟩) := h1
            rw [eB14] at h1'
            injection h1' with h; injection h with h; injection h with h
            omega
          have nB13B14 : B13 ≠ B14 := fun e => hd 6 7 (by decide) (by decide) (by decide) rfl rfl (by show f 13 = f 14; rw [eB13, eB14, e])
          have nB14B13 : B14 ≠ B13 := fun e => nB13B14 e.symm
          have hbZ := hbW
          have HK0 := (KeptIn.refl (fun k => k ≠ B13) (W)).setRow (g := B13) (fun h => h rfl) (rsV A1 (pathC VS LS ND vi vk).1.length c1 (pathC VS LS ND vi vk).2.1 (pathC VS LS ND vi vk).2.2).toArray
          have sB13 := hB13
          replace hr1 := hr1.kept hB13 (by decide) HK0
          replace hr2 := hr2.kept hB13 (by decide) HK0
          replace hB14 := hB14.keptIn HK0 nB14B13
          replace hB13 : Blk ((W).setRow B13 (rsV A1 (pathC VS LS ND vi vk).1.length c1 (pathC VS LS ND vi vk).2.1 (pathC VS LS ND vi vk).2.2).toArray) B13 44 (rsV A1 (pathC VS LS ND vi vk).1.length c1 (pathC VS LS ND vi vk).2.1 (pathC VS LS ND vi vk).2.2).toArray := setRow_heap _ _ _ _ _ _ sB13
          replace hbZ := Below.setRow hbZ lB13 (rsV A1 (pathC VS LS ND vi vk).1.length c1 (pathC VS LS ND vi vk).2.1 (pathC VS LS ND vi vk).2.2).toArray
          have HK1 := (KeptIn.refl (fun k => k ≠ B14) ((W).setRow B13 (rsV A1 (pathC VS LS ND vi vk).1.length c1 (pathC VS LS ND vi vk).2.1 (pathC VS LS ND vi vk).2.2).toArray)).setRow (g := B14) (fun h => h rfl) (rsV A2 (pathC VS (LS.take Q) ND vi vk).1.length c2 (pathC VS (LS.take Q) ND vi vk).2.1 (pathC VS (LS.take Q) ND vi vk).2.2).toArray
          have sB14 := hB14
          replace hr1 := hr1.kept hB14 (by decide) HK1
          replace hr2 := hr2.kept hB14 (by decide) HK1
          replace hB13 := hB13.keptIn HK1 nB13B14
          replace hB14 : Blk (((W).setRow B13 (rsV A1 (pathC VS LS ND vi vk).1.length c1 (pathC VS LS ND vi vk).2.1 (pathC VS LS ND vi vk).2.2).toArray).setRow B14 (rsV A2 (pathC VS (LS.take Q) ND vi vk).1.length c2 (pathC VS (LS.take Q) ND vi vk).2.1 (pathC VS (LS.take Q) ND vi vk).2.2).toArray) B14 44 (rsV A2 (pathC VS (LS.take Q) ND vi vk).1.length c2 (pathC VS (LS.take Q) ND vi vk).2.1 (pathC VS (LS.take Q) ND vi vk).2.2).toArray := setRow_heap _ _ _ _ _ _ sB14
          replace hbZ := Below.setRow hbZ lB14 (rsV A2 (pathC VS (LS.take Q) ND vi vk).1.length c2 (pathC VS (LS.take Q) ND vi vk).2.1 (pathC VS (LS.take Q) ND vi vk).2.2).toArray
          simp only [List.drop_succ_cons, List.drop_zero]
          simp only [putV, List.foldl_cons, List.foldl_nil, Act.put, List.setIfInBounds_toArray, List.set_cons_succ, List.set_cons_zero]
          rw [eB13, eB14, e64, e67]
          refine wpList_store_row rfl 44 (.tmp 13) (.tmp 64) rfl B13 (rsV A1 (pathC VS LS ND vi vk).1.length c1 (pathC VS LS ND vi vk).2.1 (pathC VS LS ND vi vk).2.2).toArray rfl rfl 44 (rsV none 0 0 0 0).toArray sB13 (size44 _ rfl) rfl (rs_one _ _ _ _ _) ?_
          refine wpList_store_row rfl 44 (.tmp 14) (.tmp 67) rfl B14 (rsV A2 (pathC VS (LS.take Q) ND vi vk).1.length c2 (pathC VS (LS.take Q) ND vi vk).2.1 (pathC VS (LS.take Q) ND vi vk).2.2).toArray rfl rfl 44 (rsV none 0 0 0 0).toArray sB14 (size44 _ rfl) rfl (rs_one _ _ _ _ _) ?_
          refine wpList_nil ?_
          have HX := Lib.hid (And.intro hB13 (And.intro hB14 (And.intro hr1 (And.intro hr2 (And.intro ok1 (And.intro ok2 hbZ))))))
          clear hT hp hd HK0 HK1 sB13 sB14 hB13 hB14 hbZ hbW ok1 ok2 hr1 hr2
          go_wp2_with fail
          go_meet
          exact ⟨B13, B14, A1, A2, c1, c2, rfl, rfl, HX.out⟩
      case' rest => skip
      obtain ⟨B13, B14, A1, A2, c1, c2, rfl, rfl, h13, h14, hr1, hr2, ok1, ok2, hbn⟩ := hcut
      obtain ⟨u5, h_⟩ : ∃ v, v = wc := ⟨_, rfl⟩
      subst h_
      have hsm := links_same Hvg.out HLl.out ok1 ok2
      have hct := links_cost Hvg.out HLl.out ok1 ok2
      have hLb := path_links Hvg.out ok1
      obtain ⟨⟨L1, n1, x1⟩, hp1⟩ : ∃ p, p = (pathC VS LS ND vi vk) := ⟨_, rfl⟩
      obtain ⟨⟨L2, n2, x2⟩, hp2⟩ : ∃ p, p = (pathC VS (LS.take Q) ND vi vk) := ⟨_, rfl⟩
      rw [← hp1] at h13 hr1 hsm hct hLb
      rw [← hp2] at h14 hr2 hsm hct
      simp only at hr1 hr2 hsm hct hLb
      have H13 := Lib.hid h13
      have H14 := Lib.hid h14
      have Hr1 := Lib.hid hr1
      have Hr2 := Lib.hid hr2
      have Hsm := Lib.hid hsm
      have Hct := Lib.hid hct
      have Hlen := Lib.hid hLb
      replace HBr := Lib.hid (HBr.out.trans (hbn.mono HBr.out.size))
      clear h13 h14 hr1 hr2 hsm hct hLb ok1 ok2 hp1 hp2 hbn HBA HG HBL HRd HLd HLt HB
      go_wp2_with fail
      go_loopw [15, 16] (fun v15 v16 wr => ∃ j : Nat, v16 = .int .i64 (j : Int) ∧ j ≤ L1.length ∧ v15 = .bool (decide (Q ∈ L1.take j)) ∧ Below u5.heap.size u5 wr) (fun _ v16 _ => L1.length - (intOf v16).toNat)
      case atStart => exact ⟨0, rfl, by omega, by simp, Below.refl _ _⟩
      case round =>
        obtain ⟨j, rfl, hjL, rfl, hBj⟩ := hrel
        have HBj := Lib.hid hBj
        have hL16 := Hlen.out
        have c13 : wr.cell? ⟨B13, 0, none⟩ = some (.slice A1 L1.length c1) := by rw [(H13.out.below hBj H13.out.lt).cell]; rfl
        clear hBj
        by_cases lj : j < L1.length
        · obtain ⟨b1, o1, y, ea, hy, cy0⟩ := (Hr1.out.rd.below HBj.out).at_ lj
          subst ea
          have hy2 : L1[j]? = some L1[j] := List.getElem?_eq_getElem lj
          obtain ⟨q, hq⟩ : ∃ q, q = L1[j] := ⟨_, rfl⟩
          rw [← hq] at hy2
          have hyq : y = (q : Int) := by
            unfold castL at hy
            rw [List.getElem?_map, hy2] at hy
            simpa using hy.symm
          subst hyq
          have cy : wr.cell? ⟨b1, o1 + j, none⟩ = some (.int .i64 (q : Int)) := cy0
          have htk : decide (Q ∈ L1.take (j + 1)) = (decide (Q ∈ L1.take j) || decide (q = Q)) := by
            rw [List.take_add_one, hy2]
            by_cases h1 : Q ∈ L1.take j <;> by_cases h2 : q = Q <;> simp [h1, h2]
            · exact fun e => h2 e.symm
          have Htk := Lib.hid htk
          have hq16 : q < 64 := by rw [hq]; exact hL16.2 _ (List.getElem_mem _)
          have d0 : decide ((j : Int) < (L1.length : Int)) = true := decide_eq_true (by omega)
          obtain ⟨us, hus⟩ : ∃ us, us = decide (Q ∈ L1.take j) := ⟨_, rfl⟩
          rw [← hus] at Htk ⊢
          clear hy hy2 hq cy0 htk hus
          cases us with
          | true =>
            go_wp2_with fail
            exact ⟨⟨j + 1, by go_num, by omega, by rw [Htk.out]; rfl, HBj.out⟩, by simp [intOf]; omega⟩
          | false =>
            by_cases hqQ : q = Q
            · subst hqQ
              go_wp2_with fail
              exact ⟨⟨j + 1, by go_num, by omega, by rw [Htk.out]; simp, HBj.out⟩, by simp [intOf]; omega⟩
            · have z1 : ((q : Int) == (Q : Int)) = false := by rw [beq_eq_false_iff_ne]; omega
              have z2 : (q == Q) = false := by rw [beq_eq_false_iff_ne]; omega
              go_wp2_with fail
              exact ⟨⟨j + 1, by go_num, by omega, by rw [Htk.out]; simp [hqQ], HBj.out⟩, by simp [intOf]; omega⟩
        · have d0 : decide ((j : Int) < (L1.length : Int)) = false := decide_eq_false (by omega)
          have d1 : decide (j < L1.length) = false := decide_eq_false lj
          have htk : L1.take j = L1 := List.take_of_length_le (by omega)
          rw [htk]
          have h13 := H13.out.below HBj.out H13.out.lt
          have h14 := H14.out.below HBj.out H14.out.lt
          have HBe := Lib.hid (HBr.out.trans (HBj.out.mono HBr.out.size))
          have Hg13 := Lib.hid (Blk.range h13)
          have Hg14 := Lib.hid (Blk.range h14)
          have e14 : wr.cell? ⟨B14, 2, none⟩ = some (.int .i64 x2) := by rw [h14.cell]; rfl
          have n14 : wr.cell? ⟨B14, 1, none⟩ = some (.int .i64 n2) := by rw [h14.cell]; rfl
          have n13 : wr.cell? ⟨B13, 1, none⟩ = some (.int .i64 n1) := by rw [h13.cell]; rfl
          clear lj htk h13 h14
          by_cases hu : Q ∈ L1
          · rw [decide_eq_true hu]
            clear hu
            by_cases hx : x2 = 0
            · have q4 : decide (n2 < n1) = false := decide_eq_false (by have := Hct.out hx; omega)
              subst hx
              go_wp2_with fail
              exact ⟨⟨k + 1, by go_num, by omega, HBe.out⟩, by simp [intOf]; omega⟩
            · have q1 : (x2 == 0) = false := by rw [beq_eq_false_iff_ne]; exact hx
              clear hx
              go_wp2_with fail
              exact ⟨⟨k + 1, by go_num, by omega, HBe.out⟩, by simp [intOf]; omega⟩
          · rw [decide_eq_false hu]
            obtain ⟨s1, s2, s3⟩ := Hsm.out hu
            subst s1
            subst s2
            subst s3
            have hsm2 := Same_any A1 A2 L1.length L1.length c1 c2 (castL L1) (castL L1) n1 n1 x1 x1 wr (Hr1.out.rd.below HBj.out) (Hr2.out.rd.below HBj.out)
            rw [decide_eq_true (show castL L1 = castL L1 ∧ n1 = n1 ∧ x1 = x1 from ⟨rfl, rfl, rfl⟩)] at hsm2
            have Hsm2 := Lib.hid hsm2
            clear hu hsm2 e14 n14 n13
            go_wp2_with (first | (refine wpList_load_mid_g (by first | rfl | simp [Region.wanted, yielded]) 44 (.tmp 13) rfl B13 0 rfl (rsV A1 L1.length c1 n1 x1) d44 Hg13.out hd44 hrow44 (by show _ = some 3; kernel_rfl) ?_) | (refine wpList_load_mid_g (by first | rfl | simp [Region.wanted, yielded]) 44 (.tmp 14) rfl B14 0 rfl (rsV A2 L1.length c2 n1 x1) d44 Hg14.out hd44 hrow44 (by show _ = some 3; kernel_rfl) ?_))
            refine Hsm2.out.mono ?_
            rintro e u6 ⟨rfl, hb6⟩
            have HBf := Lib.hid (HBe.out.trans (hb6.mono HBe.out.size))
            clear hb6 Hsm2
            go_wp2_with fail
            exact ⟨⟨k + 1, by go_num, by omega, HBf.out⟩, by simp [intOf]; omega⟩
end Go.Proofs.Ytgelchbbknckcaa
