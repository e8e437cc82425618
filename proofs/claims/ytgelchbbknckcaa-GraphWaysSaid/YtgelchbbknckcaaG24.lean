/- The law GraphParts. -/
import Derived.Test.YtgelchbbknckcaaG22
import Derived.Test.YtgelchbbknckcaaG23
namespace Go.Proofs.Ytgelchbbknckcaa
open Go.RowKit Go.Sort

theorem path_e {vs : List Int} {ls : List Ln} {lim : Nd} {a b : Int} (h : PathOk vs ls lim a b) (ha : a ∈ vs) (hb : b ∈ vs) : (pathC vs ls lim a b).2.2 = 0 ∨ (pathC vs ls lim a b).2.2 = 290 := by
  rcases h with ⟨h, _⟩ | ⟨_, _, _, _, ⟨_, _, _, h⟩ | ⟨_, _, _, _, _, h⟩⟩
  · rcases h with h | h
    · exact absurd ha h
    · exact absurd hb h
  · exact .inr h
  · exact .inl h
theorem Gr.Walk.last {ls : List Gr.Lk} {s t c q : Nat} {l : List Nat} (h : Gr.Walk ls s t (c, l ++ [q])) : ∃ u d, ls[q]? = some (u, t, d, true) := by
  generalize hw : (c, l ++ [q]) = w at h
  cases h with
  | nil => simp at hw
  | @snoc u t k d w h1 h2 =>
    simp only [Prod.mk.injEq] at hw
    have := List.append_inj_right' hw.2 rfl
    simp at this
    subst this
    exact ⟨u, d, h2⟩
theorem Gr.Walk.det {ls : List Gr.Lk} {s t : Nat} {w : Gr.Wy} (h : Gr.Walk ls s t w) : ∀ {t' : Nat} {w' : Gr.Wy}, Gr.Walk ls s t' w' → w'.2 = w.2 → t' = t := by
  cases h with
  | nil =>
    intro t' w' h' e
    cases h' with
    | nil => rfl
    | snoc => simp at e
  | @snoc u t k d w h1 h2 =>
    intro t' w' h' e
    cases h' with
    | nil => simp at e
    | @snoc u' t' k' d' w' h1' h2' =>
      have := List.append_inj_right' e rfl
      simp at this
      subst this
      rw [h2] at h2'
      cases h2'
      rfl
theorem Gr.Walk.last2 {ls : List Gr.Lk} {s t c q : Nat} {l : List Nat} (h : Gr.Walk ls s t (c, l ++ [q])) : ∃ u c9 d, Gr.Walk ls s u (c9, l) ∧ ls[q]? = some (u, t, d, true) ∧ c = c9 + d := by
  generalize hw : (c, l ++ [q]) = w at h
  cases h with
  | nil => simp at hw
  | @snoc u t k d w h1 h2 =>
    simp only [Prod.mk.injEq] at hw
    have e1 := List.append_inj_right' hw.2 rfl
    have e2 := List.append_inj_left' hw.2 rfl
    simp at e1
    subst e1
    subst e2
    exact ⟨u, w.1, d, h1, h2, hw.1⟩
theorem Gr.Walk.det3 {ls : List Gr.Lk} {s t : Nat} {w : Gr.Wy} (h : Gr.Walk ls s t w) : ∀ {t' : Nat} {w' : Gr.Wy}, Gr.Walk ls s t' w' → w'.2 = w.2 → t' = t ∧ w'.1 = w.1 := by
  induction h with
  | nil =>
    intro t' w' h' e
    cases h' with
    | nil => exact ⟨rfl, rfl⟩
    | snoc => simp at e
  | @snoc u t k d w h1 h2 ih =>
    intro t' w' h' e
    cases h' with
    | nil => simp at e
    | @snoc u' t' k' d' w' h1' h2' =>
      have e1 := List.append_inj_right' e rfl
      have e2 := List.append_inj_left' e rfl
      simp at e1
      subst e1
      obtain ⟨_, e3⟩ := ih h1' e2
      rw [h2] at h2'
      cases h2'
      exact ⟨rfl, by show w'.1 + d = w.1 + d; rw [e3]⟩
theorem Gr.Walk.det2 {ls : List Gr.Lk} {s t t' c c' : Nat} {l : List Nat} (h : Gr.Walk ls s t (c, l)) (h' : Gr.Walk ls s t' (c', l)) : t' = t ∧ c' = c := h.det3 h' rfl
theorem path_is {vs : List Int} {ls : List Ln} {lim : Nd} {a b : Int} {s t : Nat} {w : Gr.Wy} (hv : Vg vs ls) (h : PathOk vs ls lim a b) (hs : vs[s]? = some a) (ht : vs[t]? = some b) (hb : Gr.Best (lksN vs lim ls) s t (some w)) : pathC vs ls lim a b = (w.2, (w.1 : Int), 0) := by
  rcases h with ⟨h, _⟩ | ⟨s', t', hs', ht', ⟨h, _⟩ | ⟨y, hy, _, e1, e2, e3⟩⟩
  · rcases h with h | h
    · exact absurd (List.mem_of_getElem? hs) h
    · exact absurd (List.mem_of_getElem? ht) h
  · obtain rfl := hv.uniq hs hs'
    obtain rfl := hv.uniq ht ht'
    have := hb.uniq h
    cases this
  · obtain rfl := hv.uniq hs hs'
    obtain rfl := hv.uniq ht ht'
    obtain rfl := Option.some.inj (hb.uniq hy)
    exact Prod.ext e1 (Prod.ext e2 e3)
theorem castL_take (L : List Nat) (k : Nat) : castL (L.take k) = (castL L).take k := by simp [castL, List.map_take]
theorem castL_drop (L : List Nat) (k : Nat) : castL (L.drop k) = (castL L).drop k := by simp [castL, List.map_drop]
theorem Rd.take1 {α : Type} {f : α → Value} {w : World} {n m : Nat} {A : Option Addr} {xs : List α} (h : Rd w 1 A n (xs.map f)) (hm : m ≤ n) : Rd w 1 A m ((xs.take m).map f) := by
  have e : ∀ l : List α, l.map f = l.flatMap fun x => [f x] := fun l => by induction l with
    | nil => rfl
    | cons a l ih => simp [ih]
  rw [e] at h ⊢
  exact h.headN (fun _ => rfl) hm
theorem run_ints_at_head (a : Option Addr) (n c m : Nat) (hm : m ≤ c) (w : World) : (Instr.sliceAt 30 (.slice a n c) none (some (.int .i64 (m : Int))) none).run Try.prog w = .ok (.slice a m c) w := by
  rw [run_sliceAt_slice _ _ _ _ _ _ (by rw [elem30]; exact Try.underlying30)]
  exact run_ints_head a n c m hm w
theorem ints_drop {W : World} {A : Option Addr} {n k : Nat} {xs : List Int} (h : Rd W 1 A n (xs.map intV)) (hk : k ≤ n) (c : Nat) (hc : n ≤ c) : ∃ A' : Option Addr, (Instr.sliceAt 30 (.slice A n c) (some (.int .i64 (k : Int))) none none).run Try.prog W = .ok (.slice A' (n - k) (c - k)) W ∧ Rd W 1 A' (n - k) ((xs.drop k).map intV) := by
  obtain ⟨iE, hi'⟩ : ∃ i, Try.prog.info? 3 = some i := by
    have := size30'
    unfold Program.cellsOf at this
    cases h : Try.prog.info? 3 with
    | none => simp [h] at this
    | some i => exact ⟨i, rfl⟩
  have hxl := h.len1
  refine ⟨if c = k then A else A.map fun x => x.add (k * 1), ?_, ?_⟩
  · rw [run_sliceAt_slice _ _ _ _ _ _ (by rw [elem30]; exact Try.underlying30), run_slice_l (P := Try.prog) W 30 A n c Try.underlying30 .i64 (k : Int) (by omega) (by omega), elem30, run_sizeOf W hi', size30']
    simp only [Result.andThen_ok, sliced, Int.toNat_natCast]
  · refine ⟨by simp; omega, by have := h.le; omega, fun hp => ?_⟩
    obtain ⟨b, off, e, _⟩ := h.2.2 (by omega)
    subst e
    have h2 := h.part (i := k) (j := n) hk (Nat.le_refl _)
    rw [List.take_of_length_le (by omega)] at h2
    rw [if_neg (by omega)]
    have e2 : (some (⟨b, off, none⟩ : Addr)).map (fun x => x.add (k * 1)) = some ⟨b, off + k, none⟩ := by
      simp only [Option.map_some, Nat.mul_one]
      unfold Addr.add; split <;> simp_all
    rw [e2]
    exact h2.2.2 hp
theorem val_slice_lo {P : Program} {Q : Exit → Act → World → Prop} {o : Oper} {a : Act} {W : World} {R : Value → World → Prop} (t : TypeId) (x y : Operand) (ho : o.op = .slice t x (some y) none none) (A : Option Addr) (n c m : Nat) (hx : a.eval x = .slice A n c) (hy : a.eval y = .int .i64 (m : Int)) {u : Value} (hr : (Instr.sliceAt t (.slice A n c) (some (.int .i64 (m : Int))) none none).run P W = .ok u W) (h : R u W) : Val P Q o a W (fun v W' => Below W.heap.size W W' ∧ R v W') := fun K hK => by
  unfold Oper.wp execOp
  simp only [ho, Option.map_none, Option.map_some, hx, hy, Sem.run_bind, hr, Result.andThen_ok]
  exact hK _ _ ⟨Below.refl _ _, h⟩
def spDr (n c : Nat) (xs : List Int) : Spec := ⟨fun v W => ∃ A' : Option Addr, v = .slice A' n c ∧ Rd W 1 A' n (xs.map intV), fun _ _ _ ⟨A, h1, h2⟩ hb => ⟨A, h1, h2.below hb⟩⟩

set_option maxRecDepth 100000 in
set_option maxHeartbeats 4000000 in
theorem GraphParts_any (A : Option Addr) (n c : Nat) (B : Option Addr) (m d : Nat) (xs : List UInt8) (ys : List R6) (w0 w1 w2 m0 m1 m2 : UInt8) (w : World) (hr : Rd w 1 A n (xs.map byteV)) (hl : Rd w 6 B m (ys.flatMap r6V)) :
    Calls Try.prog 7 #[.agg (grV A n c B m d).toArray, .agg #[byteV w0, byteV w1, byteV w2], .agg #[byteV m0, byteV m1, byteV m2]] w fun e w' => e = .returned (.bool true) ∧ Below w.heap.size w w' := by
  obtain ⟨i28, hi28, hz28, hs28, hy28⟩ := info_parts info28
  obtain ⟨i33, hi33, hz33, hs33, hy33⟩ := info_parts info33
  obtain ⟨i44, hi44, hz44, hs44, hy44⟩ := info_parts info44
  obtain ⟨i53, hi53, hz53, hs53, hy53⟩ := info_parts info53
  obtain ⟨d25, hd25, hrow25⟩ := und25
  obtain ⟨d28, hd28, hrow28⟩ := und28
  obtain ⟨d33, hd33, hrow33⟩ := und33
  obtain ⟨d44, hd44, hrow44⟩ := und44
  obtain ⟨d53, hd53, hrow53⟩ := und53
  obtain ⟨i40, hi40, hz40, hs40, hy40⟩ := info_parts info40
  obtain ⟨d40, hd40, hrow40⟩ := und40
  obtain ⟨i3, hi3, hz3, hs3, hy3⟩ := info_parts info3
  have hxl := hr.len1
  obtain ⟨N, hN⟩ : ∃ N, N = min n 7 := ⟨_, rfl⟩
  obtain ⟨M, hM⟩ : ∃ M, M = madeM xs ys := ⟨_, rfl⟩
  obtain ⟨VS, hVS⟩ : ∃ VS, VS = verN xs (min n 7) := ⟨_, rfl⟩
  obtain ⟨LS, hLS⟩ : ∃ LS, LS = madeL xs ys := ⟨_, rfl⟩
  obtain ⟨ND, hND⟩ : ∃ x, x = needN m0 m1 m2 := ⟨_, rfl⟩
  have hvg : Vg VS LS := by rw [hVS, hLS]; exact made_vg xs ys hxl
  have hbd : ∀ x ∈ VS, 1 ≤ x ∧ x ≤ 21 := fun x hx => by rw [hVS] at hx; have := verN_bd hx; omega
  have hVl : VS.length = N := by rw [hVS, hN, verN_len]
  have hLl : LS.length = M := by rw [hLS, hM, madeL_len]
  have hM14 : M ≤ 14 := by rw [hM]; exact madeM_le xs ys
  have Hr := Lib.hid hr
  have Hl := Lib.hid hl
  have Hvg := Lib.hid hvg
  have Hbd := Lib.hid hbd
  have HVl := Lib.hid hVl
  have HLl := Lib.hid hLl
  have HNe := Lib.hid hN
  have hN7 : N ≤ 7 := by omega
  have hMade : ∀ W : World, Rd W 1 A n (xs.map byteV) → Rd W 6 B m (ys.flatMap r6V) → Calls Try.prog 12 #[.agg (grV A n c B m d).toArray] W fun e w' => (∃ A' c' B' d', e = .returned (.agg (grV A' N c' B' M d').toArray) ∧ TRd w' 3 1 A' N (VS.map intV) ∧ TRd w' 53 8 B' M (LS.flatMap lnV)) ∧ Below W.heap.size W w' := fun W h1 h2 => by
    rw [hN, hM, hVS, hLS]; exact Made_C A n c B m d xs ys W h1 h2
  have HMade := Lib.hid hMade
  have hHNeed : ∀ W : World, Calls Try.prog 13 #[.agg #[byteV m0, byteV m1, byteV m2]] W fun e w' => e = .returned (.agg (ndV ND).toArray) ∧ Below W.heap.size W w' := fun W => by rw [hND]; exact Need_any m0 m1 m2 W
  have HNeed := Lib.hid hHNeed
  clear hr hl hvg hbd hxl hN hM hVS hLS hMade hVl hLl hHNeed hND
  go_enter Try.func7, Try.ntmps7
  go_upto_region 1 with fail
  try simp only [World.size_alloc]
  obtain ⟨v1, hv1⟩ : ∃ v, v = ((w.alloc (.cells (grV A n c B m d).toArray 25)).alloc (.cells #[byteV w0, byteV w1, byteV w2] 36)).alloc (.cells #[byteV m0, byteV m1, byteV m2] 36) := ⟨_, rfl⟩
  have hB : Below w.heap.size w v1 := by rw [hv1]; exact ((((Below.refl _ _).alloc (Nat.le_refl _) _).alloc (by simp) _).alloc (by simp; omega) _)
  have hC : Blk v1 (w.heap.size) 25 (grV A n c B m d).toArray := by
    have := Blk.new w 25 (grV A n c B m d).toArray
    rw [hv1]; exact ((this.alloc _).alloc _)
  have hX0 : Blk v1 (w.heap.size + 1) 36 #[byteV w0, byteV w1, byteV w2] := by
    have := Blk.new (w.alloc (.cells (grV A n c B m d).toArray 25)) 36 #[byteV w0, byteV w1, byteV w2]
    rw [World.size_alloc] at this
    rw [hv1]; exact (this.alloc _)
  have hX1 : Blk v1 (w.heap.size + 1 + 1) 36 #[byteV m0, byteV m1, byteV m2] := by
    have := Blk.new ((w.alloc (.cells (grV A n c B m d).toArray 25)).alloc (.cells #[byteV w0, byteV w1, byteV w2] 36)) 36 #[byteV m0, byteV m1, byteV m2]
    rw [World.size_alloc, World.size_alloc] at this
    rw [hv1]; exact this
  rw [← hv1]
  clear hv1
  have HC := Lib.hid hC
  have HX0 := Lib.hid hX0
  have HX1 := Lib.hid hX1
  have HB := Lib.hid hB
  clear hC hX0 hX1 hB
  go_upto_region 2 with fail
  refine (sanity_any v1).mono ?_
  rintro e v2 ⟨rfl, hb2⟩
  replace HC := Lib.hid (HC.out.below hb2 HC.out.lt)
  replace HX0 := Lib.hid (HX0.out.below hb2 HX0.out.lt)
  replace HX1 := Lib.hid (HX1.out.below hb2 HX1.out.lt)
  replace HB := Lib.hid (HB.out.trans (hb2.mono HB.out.size))
  clear hb2
  replace Hr := Lib.hid (Hr.out.below HB.out)
  replace Hl := Lib.hid (Hl.out.below HB.out)
  go_upto_region 2 with fail
  have Hrw := Lib.hid (Blk.range HC.out)
  have Hmd := Lib.hid (HMade.out v2 Hr.out Hl.out)
  go_upto_region 3 with (refine wpList_load_mid rfl 25 (.tmp 3) rfl w.heap.size 0 rfl (grV A n c B m d) d25 Hrw.out hd25 hrow25 (by rw [grV_len]; kernel_rfl) ?_)
  refine Hmd.out.mono ?_
  rintro e v2' ⟨⟨GA, gc, GB, gd, rfl, hg1, hg2⟩, hb2⟩
  have HRd := Lib.hid hg1
  have HLd := Lib.hid hg2
  replace HX0 := Lib.hid (HX0.out.below hb2 HX0.out.lt)
  replace HX1 := Lib.hid (HX1.out.below hb2 HX1.out.lt)
  replace HB := Lib.hid (HB.out.trans (hb2.mono HB.out.size))
  clear hb2
  have hn_ : Blk (v2'.alloc (.cells (grV none 0 0 none 0 0).toArray 33)) v2'.heap.size 33 (grV none 0 0 none 0 0).toArray := Blk.new _ _ _
  have Hn_ := Lib.hid hn_
  clear hg1 hg2 Hmd Hrw HC Hr Hl HMade hn_
  go_upto_region 3 with (first | (refine wpList_alloc0 rfl 33 rfl (grV none 0 0 none 0 0).toArray _ i33 hi33 hz33 rfl ?_; simp only [Act.put, List.setIfInBounds_toArray, List.set_cons_succ, List.set_cons_zero]) | (refine wpList_store_row rfl 33 (.tmp 8) (.tmp 18) rfl v2'.heap.size (grV GA N gc GB M gd).toArray rfl rfl 33 (grV none 0 0 none 0 0).toArray Hn_.out (size33 _ rfl) rfl (gr_one _ _ _ _ _ _) ?_))
  obtain ⟨v3, hv3⟩ : ∃ v, v = (v2'.alloc (.cells (grV none 0 0 none 0 0).toArray 33)).setRow v2'.heap.size (grV GA N gc GB M gd).toArray := ⟨_, rfl⟩
  have hb3 : Below v2'.heap.size v2' v3 := by rw [hv3]; exact Below.setRow ((Below.refl _ _).alloc (Nat.le_refl _) _) (Nat.le_refl _) _
  have HG := Lib.hid (show Blk v3 v2'.heap.size 33 (grV GA N gc GB M gd).toArray by rw [hv3]; exact setRow_heap _ _ _ _ _ _ Hn_.out)
  rw [← hv3]
  clear hv3 Hn_
  obtain ⟨BG, hBG⟩ : ∃ v, v = v2'.heap.size := ⟨_, rfl⟩
  rw [← hBG] at HG ⊢
  clear hBG
  replace HX0 := Lib.hid (HX0.out.below hb3 HX0.out.lt)
  replace HX1 := Lib.hid (HX1.out.below hb3 HX1.out.lt)
  replace HRd := Lib.hid (HRd.out.below hb3)
  replace HLd := Lib.hid (HLd.out.below hb3)
  replace HB := Lib.hid (HB.out.trans (hb3.mono HB.out.size))
  clear hb3
  have g0 : v3.cell? ⟨BG, 0, none⟩ = some (.slice GA N gc) := by rw [HG.out.cell]; rfl
  by_cases hN0 : N = 0
  · rw [hN0] at g0
    clear hN0
    go_wp2_with fail
    go_ret
    exact ⟨rfl, HB.out⟩
  have q1 : ((N : Int) == 0) = false := by rw [beq_eq_false_iff_ne]; omega
  have q2 : (N == 0) = false := by rw [beq_eq_false_iff_ne]; omega
  go_upto_region 5 with fail
  clear q1 q2
  obtain ⟨F0, hF0⟩ : ∃ F, F = w0.toNat % N := ⟨_, rfl⟩
  obtain ⟨F1, hF1⟩ : ∃ F, F = w1.toNat % N := ⟨_, rfl⟩
  have k0 : (w0.toNat : Int) % (N : Int) = (F0 : Int) := by rw [hF0]; exact (Int.natCast_emod _ _).symm
  have k1 : (w1.toNat : Int) % (N : Int) = (F1 : Int) := by rw [hF1]; exact (Int.natCast_emod _ _).symm
  have f0 : F0 < N := by rw [hF0]; exact Nat.mod_lt _ (by omega)
  have f1 : F1 < N := by rw [hF1]; exact Nat.mod_lt _ (by omega)
  have b0 := w0.toNat_lt
  have b1 := w1.toNat_lt
  obtain ⟨vb, vo, va, ea, hva, cva⟩ := HRd.out.rd.at_ f0
  subst ea
  obtain ⟨_, _, vb', ea, hvb, cvb⟩ := HRd.out.rd.at_ f1
  cases ea
  have cva' : v3.cell? ⟨vb, vo + F0, none⟩ = some (.int .i64 va) := cva
  have cvb1 : v3.cell? ⟨vb, vo + F1, none⟩ = some (.int .i64 vb') := cvb
  have d0 : v3.cell? ⟨w.heap.size + 1, 0, none⟩ = some (.int .u8 (w0.toNat : Int)) := by rw [HX0.out.cell]; rfl
  have d1 : v3.cell? ⟨w.heap.size + 1, 1, none⟩ = some (.int .u8 (w1.toNat : Int)) := by rw [HX0.out.cell]; rfl
  have hr5 : ∀ w', Ext v3 w' → w'.rangeAt (w.heap.size + 1 + 1) 0 [byteV m0, byteV m1, byteV m2] := fun w' hw' => Blk.range (HX1.out.below (ext_below hw') HX1.out.lt)
  have Hr5 := Lib.hid hr5
  have Hva := Lib.hid hva
  have Hvb := Lib.hid hvb
  have g0r := cell_regrown g0
  have c0r := cell_regrown cva'
  have c1r := cell_regrown cvb1
  have d0r := cell_regrown d0
  have d1r := cell_regrown d1
  clear hF0 hF1 hva hvb cva cvb g0 cva' cvb1 d0 d1 hr5
  go_cut [9] from 24 to 48 (fun t9 wx => ∃ BA : Nat, t9 = .pointer (some ⟨BA, 0, none⟩) ∧ Blk wx BA 40 (asV va vb' ND).toArray ∧ Below v3.heap.size v3 wx)
  case first =>
    refine wp_region_reads_tail 26 [0, 1, 2, 3, 4, 5, 6, 7, 8, 9, 10, 11, 12, 13, 14, 15, 16, 17, 18, 19, 20, 21, 22] 3 (by kernel_rfl) (List.take_append_drop _ _) rfl (by kernel_rfl) (by kernel_rfl) (by kernel_rfl) (by decide) (by kernel_rfl) (by kernel_rfl) (fun _ _ d _ _ h => by cases d <;> exact h) (by kernel_rfl) (by kernel_rfl) rfl ?_
    simp only [List.take_succ_cons, List.take_zero, List.drop_succ_cons, List.drop_zero, pickOps, List.getElem?_cons_zero, List.getElem?_cons_succ]
    repeat (first | go_big_quiet_step (fail) | (refine wpQuiet_load_mid rfl 36 (.tmp 5) rfl (w.heap.size + 1 + 1) 0 rfl [byteV m0, byteV m1, byteV m2] _ Hr5.out und36 rfl (by kernel_rfl) ?_; simp only [Act.put, List.setIfInBounds_toArray, List.set_cons_succ, List.set_cons_zero]))
    refine wpQuiet_nil ?_
    clear g0r c0r c1r d0r d1r k0 k1 f0 f1 b0 b1
    refine web_start0 (fs := [floVar 25 9 40 (asV 0 0 nd0).toArray]) [.act 23 [], .act 24 []] _ _ (by kernel_rfl) (fun _ _ d _ _ h => by cases d <;> exact h) ⟨⟨_, rfl, flo_var rfl rfl rfl _ i40 hi40 hz40 rfl⟩, trivial⟩ (by decide) (by decide) (by kernel_rfl) (by kernel_rfl) (ext_drew (ext_refl _)) (by intro F hF; simp at hF; subst hF; simp) 3 (by decide) (by kernel_rfl) ?_
    intro v1 W hW _ o ho K hK
    cases ho
    have hbW : Below v3.heap.size v3 W := ((Below.refl _ v3).drew).trans hW
    simp only [putS, List.foldl_cons, List.foldl_nil, Act.put, List.setIfInBounds_toArray, List.set_cons_succ, List.set_cons_zero]
    have Hnd := Lib.hid (HNeed.out W)
    unfold StepP
    go_simp
    refine Hnd.out.mono ?_
    rintro e W2 ⟨rfl, hb2⟩
    refine hK _ _ (by intro F hF; simp at hF; subst hF; exact ⟨rfl, by simp⟩) hb2 ?_
    have hb2 := hbW.trans (hb2.mono hbW.size)
    clear hK K hW Hnd
    intro v2 W3 hW3 _ o ho K hK
    cases ho
    have hb3 := hb2.trans (hW3.mono hb2.size)
    simp only [putS, List.foldl_cons, List.foldl_nil, Act.put, List.setIfInBounds_toArray, List.set_cons_succ, List.set_cons_zero]
    refine step_buildN rfl 40 _ rfl [(0, .int .i64 va), (1, .int .i64 vb'), (2, .agg (ndV ND).toArray)] rfl _ (built40 _ _ _) ?_
    refine hK _ _ (by intro F hF; simp at hF; subst hF; exact ⟨rfl, by simp [Act.put]⟩) (Below.refl _ _) ?_
    clear hK K hW3 hb2
    intro v5 W8 hW8 hall
    obtain ⟨BA, hvB, hBw, hBb⟩ := hall (floVar 25 9 40 (asV 0 0 nd0).toArray) (by simp) (floVar 25 9 40 (asV 0 0 nd0).toArray) (by simp) rfl
    have hvB' : v5 25 = .pointer (some ⟨BA, 0, none⟩) := hvB
    have hset := Below.setRow (hb3.trans (hW8.mono hb3.size)) hBw (asV va vb' ND).toArray
    have hB' : Blk (W8.setRow BA (asV va vb' ND).toArray) BA 40 (asV va vb' ND).toArray := setRow_heap _ _ _ _ _ _ hBb
    have HX := Lib.hid (And.intro hB' hset)
    simp only [Exit.then, putS, List.foldl_cons, List.foldl_nil, Act.put, List.setIfInBounds_toArray, List.set_cons_succ, List.set_cons_zero]
    rw [hvB']
    refine wpList_store_row rfl 40 (.tmp 9) (.tmp 48) rfl BA (asV va vb' ND).toArray rfl rfl 40 (asV 0 0 nd0).toArray hBb (size40 _ rfl) rfl (as_one _ _ _) ?_
    refine wpList_nil ?_
    clear hset hB' hW8 hb3 hall hvB hvB' hBb hbW
    go_wp2_with fail
    go_meet
    exact ⟨BA, rfl, HX.out⟩
  case' rest => skip
  obtain ⟨BA, rfl, hBA, hb4⟩ := hcut
  obtain ⟨v4, h_⟩ : ∃ v, v = wc := ⟨_, rfl⟩
  subst h_
  have HBA := Lib.hid hBA
  replace HG := Lib.hid (HG.out.below hb4 HG.out.lt)
  replace HX0 := Lib.hid (HX0.out.below hb4 HX0.out.lt)
  replace HRd := Lib.hid (HRd.out.below hb4)
  replace HLd := Lib.hid (HLd.out.below hb4)
  replace HB := Lib.hid (HB.out.trans (hb4.mono HB.out.size))
  clear hb4
  clear hBA g0r c0r c1r d0r d1r k0 k1 f0 f1 b0 b1 Hr5 HX1 HNeed
  go_upto_region 6 with fail
  have Hrg := Lib.hid (Blk.range HG.out)
  have Hra := Lib.hid (Blk.range HBA.out)
  have Hpt := Lib.hid (path_C2 (some ⟨vb, vo, none⟩) N gc GB M gd VS LS va vb' ND v4 HRd.out.rd HLd.out.rd Hvg.out)
  go_upto_region 7 with (first | (refine wpList_load_mid rfl 33 (.tmp 8) rfl BG 0 rfl (grV (some ⟨vb, vo, none⟩) N gc GB M gd) d33 Hrg.out hd33 hrow33 (by rw [grV_len]; kernel_rfl) ?_) | (refine wpList_load_mid rfl 40 (.tmp 9) rfl BA 0 rfl (asV va vb' ND) d40 Hra.out hd40 hrow40 (by rw [asV_len]; kernel_rfl) ?_))
  refine Hpt.out.mono ?_
  rintro e v5 ⟨⟨A1, c1, rfl, hr1, ok1, hcp⟩, hb5⟩
  replace HG := Lib.hid (HG.out.below hb5 HG.out.lt)
  replace HX0 := Lib.hid (HX0.out.below hb5 HX0.out.lt)
  replace HBA := Lib.hid (HBA.out.below hb5 HBA.out.lt)
  replace HRd := Lib.hid (HRd.out.below hb5)
  replace HLd := Lib.hid (HLd.out.below hb5)
  replace HB := Lib.hid (HB.out.trans (hb5.mono HB.out.size))
  clear hb5
  have Hok := Lib.hid ok1
  have hpl := path_links Hvg.out ok1
  obtain ⟨⟨L, n1, x1⟩, hp1⟩ : ∃ p, p = (pathC VS LS ND va vb') := ⟨_, rfl⟩
  have Hp1 := Lib.hid hp1
  rw [← hp1] at hr1 hcp hpl ⊢
  simp only at hr1 hcp hpl
  have Hr1 := Lib.hid hr1
  have Hpl := Lib.hid hpl
  have hn_ : Blk (v5.alloc (.cells (rsV none 0 0 0 0).toArray 44)) v5.heap.size 44 (rsV none 0 0 0 0).toArray := Blk.new _ _ _
  have Hn_ := Lib.hid hn_
  clear hr1 ok1 hp1 hpl Hpt Hrg Hra hn_
  go_upto_region 7 with (first | (refine wpList_alloc0 rfl 44 rfl (rsV none 0 0 0 0).toArray _ i44 hi44 hz44 rfl ?_; simp only [Act.put, List.setIfInBounds_toArray, List.set_cons_succ, List.set_cons_zero]) | (refine wpList_store_row rfl 44 (.tmp 10) (.tmp 51) rfl v5.heap.size (rsV A1 L.length c1 n1 x1).toArray rfl rfl 44 (rsV none 0 0 0 0).toArray Hn_.out (size44 _ rfl) rfl (rs_one _ _ _ _ _) ?_))
  obtain ⟨v6, hv6⟩ : ∃ v, v = (v5.alloc (.cells (rsV none 0 0 0 0).toArray 44)).setRow v5.heap.size (rsV A1 L.length c1 n1 x1).toArray := ⟨_, rfl⟩
  have hb6 : Below v5.heap.size v5 v6 := by rw [hv6]; exact Below.setRow ((Below.refl _ _).alloc (Nat.le_refl _) _) (Nat.le_refl _) _
  have HP := Lib.hid (show Blk v6 v5.heap.size 44 (rsV A1 L.length c1 n1 x1).toArray by rw [hv6]; exact setRow_heap _ _ _ _ _ _ Hn_.out)
  rw [← hv6]
  clear hv6 Hn_
  obtain ⟨BP, hBP⟩ : ∃ v, v = v5.heap.size := ⟨_, rfl⟩
  rw [← hBP] at HP ⊢
  clear hBP
  replace HG := Lib.hid (HG.out.below hb6 HG.out.lt)
  replace HX0 := Lib.hid (HX0.out.below hb6 HX0.out.lt)
  replace HBA := Lib.hid (HBA.out.below hb6 HBA.out.lt)
  replace HRd := Lib.hid (HRd.out.below hb6)
  replace HLd := Lib.hid (HLd.out.below hb6)
  replace Hr1 := Lib.hid (Hr1.out.below hb6)
  replace HB := Lib.hid (HB.out.trans (hb6.mono HB.out.size))
  clear hb6

  have x10e : v6.cell? ⟨BP, 2, none⟩ = some (.int .i64 x1) := by rw [HP.out.cell]; rfl
  have x10 : v6.cell? ⟨BP, 0, none⟩ = some (.slice A1 L.length c1) := by rw [HP.out.cell]; rfl
  by_cases hx1 : x1 = 0
  rotate_left
  · have hx290 : x1 = 290 := by
      have := path_e Hok.out (List.mem_of_getElem? Hva.out) (List.mem_of_getElem? Hvb.out)
      rw [← Hp1.out] at this
      rcases this with h | h
      · exact absurd h hx1
      · exact h
    subst hx290
    clear hx1
    go_wp2_with fail
    go_ret
    exact ⟨rfl, HB.out⟩
  subst hx1
  have d2 : v6.cell? ⟨w.heap.size + 1, 2, none⟩ = some (.int .u8 (w2.toNat : Int)) := by rw [HX0.out.cell]; rfl
  have b2 := w2.toNat_lt
  obtain ⟨hL16, hL64⟩ := Hpl.out
  have HL64 := Lib.hid hL64
  obtain ⟨K0, hK0⟩ : ∃ K, K = w2.toNat % (L.length + 1) := ⟨_, rfl⟩
  have k2 : (w2.toNat : Int) % ((L.length : Int) + 1) = (K0 : Int) := by rw [hK0, show (L.length : Int) + 1 = ((L.length + 1 : Nat) : Int) by omega]; exact (Int.natCast_emod _ _).symm
  have hKL : K0 ≤ L.length := by rw [hK0]; have := Nat.mod_lt w2.toNat (show 0 < L.length + 1 by omega); omega
  have a0 : v6.cell? ⟨BA, 0, none⟩ = some (.int .i64 va) := by rw [HBA.out.cell]; rfl
  clear hL64 hK0
  go_upto_region 10 with fail
  simp only [k2]
  clear d2 b2 k2 x10 x10e
  go_wp2_with fail
  clear a0
  obtain ⟨s, t, ws, hs, ht, hbs, hLw, hnw⟩ : ∃ (s t : Nat) (ws : Gr.Wy), VS[s]? = some va ∧ VS[t]? = some vb' ∧ Gr.Best (lksN VS ND LS) s t (some ws) ∧ L = ws.2 ∧ n1 = (ws.1 : Int) := by
    have h := Hok.out
    unfold PathOk at h
    rw [← Hp1.out] at h
    rcases h with ⟨_, _, _, h⟩ | ⟨s, t, hs, ht, ⟨_, _, _, h⟩ | ⟨ws, hw, _, e1, e2, _⟩⟩
    · simp at h
    · simp at h
    · exact ⟨s, t, ws, hs, ht, hw, e1, e2⟩
  have Hs := Lib.hid hs
  have Ht := Lib.hid ht
  have Hbs := Lib.hid hbs
  have HLw := Lib.hid hLw
  have Hnw := Lib.hid hnw
  have hsp : ∀ k, k ≤ L.length → ∃ (t' c' d' : Nat), Gr.Walk (lksN VS ND LS) s t' (c', L.take k) ∧ Gr.Walk (lksN VS ND LS) t' t (d', L.drop k) ∧ c' + d' = ws.1 := fun k hk => by
    rw [hLw] at hk ⊢
    exact hbs.1.split k hk
  have Hsp := Lib.hid hsp
  clear hs ht hbs hLw hnw hsp
  go_loopw [12, 13] (fun v12 v13 wr => ∃ (i t' c' : Nat) (at9 : Int), v13 = .int .i64 (i : Int) ∧ i ≤ K0 ∧ v12 = .int .i64 at9 ∧ VS[t']? = some at9 ∧ Gr.Walk (lksN VS ND LS) s t' (c', L.take i) ∧ Below v6.heap.size v6 wr) (fun _ v13 _ => K0 - (intOf v13).toNat)
  case atStart => exact ⟨0, s, 0, va, rfl, by omega, rfl, Hs.out, .nil, Below.refl _ _⟩
  case round =>
    obtain ⟨i, t', c', at9, rfl, hiK, rfl, hat, hwk, hBr⟩ := hrel
    have HBr := Lib.hid hBr
    have Hat := Lib.hid hat
    have Hwk := Lib.hid hwk
    have hbx := hBr
    clear hBr hat hwk
    by_cases li : i < K0
    · have d1 : decide ((i : Int) < (K0 : Int)) = true := decide_eq_true (by omega)
      go_upto_region 14 with fail
      clear d1
      replace HG := Lib.hid (HG.out.below hbx HG.out.lt)
      replace HP := Lib.hid (HP.out.below hbx HP.out.lt)
      replace HLd := Lib.hid (HLd.out.below hbx)
      replace Hr1 := Lib.hid (Hr1.out.below hbx)
      replace HB := Lib.hid (HB.out.trans (hbx.mono HB.out.size))
      clear hbx
      have liL : i < L.length := by omega
      obtain ⟨q, hq⟩ : ∃ q, q = L[i] := ⟨_, rfl⟩
      have hq2 : L[i]? = some q := by rw [hq]; exact List.getElem?_eq_getElem liL
      obtain ⟨u9, t2, c2, d2, ea9, hlk⟩ : ∃ (u9 t2 c2 d2 : Nat), Gr.Walk (lksN VS ND LS) s t2 (c2, L.take (i + 1)) ∧ (lksN VS ND LS)[q]? = some (u9, t2, d2, true) := by
        obtain ⟨t2, c2, _, h1, _, _⟩ := Hsp.out (i + 1) (by omega)
        have h2 := h1
        rw [List.take_add_one, hq2] at h2
        obtain ⟨u9, d2, h3⟩ := Gr.Walk.last h2
        exact ⟨u9, t2, c2, d2, h1, h3⟩
      obtain ⟨l, hl, -, htv, -, -, -, -, -⟩ := Hvg.out.lk hlk
      have hqM : q < M := by have := (List.getElem?_eq_some_iff.1 hl).1; rw [HLl.out] at this; exact this
      obtain ⟨b1, o1, y, ea, hy, cy0⟩ := Hr1.out.rd.at_ liL
      subst ea
      have hyq : y = (q : Int) := by
        unfold castL at hy
        rw [List.getElem?_map, hq2] at hy
        simpa using hy.symm
      subst hyq
      have cy : wr.cell? ⟨b1, o1 + i, none⟩ = some (.int .i64 (q : Int)) := cy0
      obtain ⟨lb, lo, l', ea, hl', hcl⟩ := HLd.out.rd.flat_ lnV_len (by omega) hqM
      subst ea
      rw [hl] at hl'
      obtain rfl := Option.some.inj hl'
      have cl : wr.cell? ⟨lb, lo + q * 8 + 1, none⟩ = some (.int .i64 l.t) := by have := hcl 1 (.int .i64 l.t) rfl; rwa [← Nat.add_assoc] at this
      have p0 : wr.cell? ⟨BP, 0, none⟩ = some (.slice (some ⟨b1, o1, none⟩) L.length c1) := by rw [HP.out.cell]; rfl
      have g1 : wr.cell? ⟨BG, 1, none⟩ = some (.slice (some ⟨lb, lo, none⟩) M gd) := by rw [HG.out.cell]; rfl
      obtain ⟨M1, hM1⟩ : ∃ M1, M = M1 + 1 := ⟨M - 1, by omega⟩
      have hsub9 : IntKind.i64.wrap ((M : Int) - 1) = (M1 : Int) := (IntWalk.i64_left _).trans (show wrap64 ((M : Int) - 1) = (M1 : Int) by unfold wrap64; omega)
      have hin9 : 0 ≤ (q : Int) ∧ (q : Int) ≤ (M1 : Int) := ⟨by omega, by omega⟩
      have Hsub := Lib.hid hsub9
      clear hM1 hsub9
      have Hw2 := Lib.hid ea9
      have Htv := Lib.hid htv
      clear hq hq2 ea9 hlk hl htv hy cy0 hcl
      go_cut [86] from 76 to 86 (fun t86 wx => t86 = .bool false ∧ Below wr.heap.size wr wx)
      case first =>
        have hsub9 := Hsub.out
        refine wp_region_flowF [76, 77, 78, 79, 80, 81, 82, 83, 84, 85, 86] [(Spec.is (.pointer (some ⟨BP, 0, none⟩)), false), (Spec.is (.slice (some ⟨b1, o1, none⟩) L.length c1), false), (Spec.is (.int .i64 (i : Int)), false), (Spec.is (.pointer (some ⟨b1, o1 + i, none⟩)), false), (Spec.is (.int .i64 (q : Int)), false), (Spec.is (.pointer (some ⟨BG, 1, none⟩)), false), (Spec.is (.slice (some ⟨lb, lo, none⟩) M gd), false), (Spec.is (.int .i64 (M : Int)), false), (Spec.is (.int .i64 (M1 : Int)), false), (Spec.is (.bool true), false), (Spec.is (.bool false), false)] 152 (by kernel_rfl) rfl (by decide) rfl (by decide) (by kernel_rfl) ?_ ?_
        · refine ⟨?_, ?_, ?_, ?_, ?_, ?_, ?_, ?_, ?_, ?_, ?_, trivial⟩
          · intro a W hE hb hs
            have h10 : a.eval (.tmp 10) = .pointer (some ⟨BP, 0, none⟩) := hb 10 (by decide)
            refine flow0 rfl ?_
            intro K hK
            unfold Oper.wp execOp
            simp only [h10]
            simp [go_sem]
            exact hK _ _ ⟨Below.refl _ _, rfl, trivial⟩
          · intro a W hE hb hs
            have h76 : a.eval (.tmp 76) = .pointer (some ⟨BP, 0, none⟩) := hs 0 (by decide)
            refine flow0 rfl ?_
            have c0 : W.cell? ⟨BP, 0, none⟩ = some (.slice (some ⟨b1, o1, none⟩) L.length c1) := ((ext_below hE).cell (World.block_lt_of_cell? _ _ p0)).trans p0
            intro K hK
            unfold Oper.wp execOp
            simp only [h76]
            simp [go_sem, c0]
            exact hK _ _ ⟨Below.refl _ _, rfl, trivial⟩
          · intro a W hE hb hs
            have h13 : a.eval (.tmp 13) = .int .i64 (i : Int) := hb 13 (by decide)
            refine flow0 rfl ?_
            exact val_move _ rfl _ h13 ⟨rfl, trivial⟩
          · intro a W hE hb hs
            have h77 : a.eval (.tmp 77) = .slice (some ⟨b1, o1, none⟩) L.length c1 := hs 1 (by decide)
            have h78 : a.eval (.tmp 78) = .int .i64 (i : Int) := hs 2 (by decide)
            refine flow0 rfl ?_
            intro K hK
            unfold Oper.wp execOp
            simp only [h77, h78]
            simp [go_sem, liL]
            exact hK _ _ ⟨Below.refl _ _, rfl, trivial⟩
          · intro a W hE hb hs
            have h79 : a.eval (.tmp 79) = .pointer (some ⟨b1, o1 + i, none⟩) := hs 3 (by decide)
            refine flow0 rfl ?_
            have c0 : W.cell? ⟨b1, o1 + i, none⟩ = some (.int .i64 (q : Int)) := ((ext_below hE).cell (World.block_lt_of_cell? _ _ cy)).trans cy
            intro K hK
            unfold Oper.wp execOp
            simp only [h79]
            simp [go_sem, c0]
            exact hK _ _ ⟨Below.refl _ _, rfl, trivial⟩
          · intro a W hE hb hs
            have h8 : a.eval (.tmp 8) = .pointer (some ⟨BG, 0, none⟩) := hb 8 (by decide)
            refine flow0 rfl ?_
            intro K hK
            unfold Oper.wp execOp
            simp only [h8]
            simp [go_sem]
            exact hK _ _ ⟨Below.refl _ _, rfl, trivial⟩
          · intro a W hE hb hs
            have h81 : a.eval (.tmp 81) = .pointer (some ⟨BG, 1, none⟩) := hs 5 (by decide)
            refine flow0 rfl ?_
            have c0 : W.cell? ⟨BG, 1, none⟩ = some (.slice (some ⟨lb, lo, none⟩) M gd) := ((ext_below hE).cell (World.block_lt_of_cell? _ _ g1)).trans g1
            intro K hK
            unfold Oper.wp execOp
            simp only [h81]
            simp [go_sem, c0]
            exact hK _ _ ⟨Below.refl _ _, rfl, trivial⟩
          · intro a W hE hb hs
            have h82 : a.eval (.tmp 82) = .slice (some ⟨lb, lo, none⟩) M gd := hs 6 (by decide)
            refine flow0 rfl ?_
            exact val_len _ _ _ rfl Try.underlying31 _ _ _ h82 ⟨rfl, trivial⟩
          · intro a W hE hb hs
            have h83 : a.eval (.tmp 83) = .int .i64 (M : Int) := hs 7 (by decide)
            refine flow0 rfl ?_
            intro K hK
            unfold Oper.wp execOp
            simp only [h83, BigFrame.eval_const]
            simp [go_sem, hsub9]
            exact hK _ _ ⟨Below.refl _ _, rfl, trivial⟩
          · intro a W hE hb hs
            have h80 : a.eval (.tmp 80) = .int .i64 (q : Int) := hs 4 (by decide)
            have h84 : a.eval (.tmp 84) = .int .i64 (M1 : Int) := hs 8 (by decide)
            refine flow0 rfl ?_
            exact val_call 26 _ _ rfl (by kernel_rfl) [.int .i64 (q : Int), .int .i64 0, .int .i64 (M1 : Int)] (by show [a.eval (.tmp 80), a.eval (.const (.int .i64 0)), a.eval (.tmp 84)] = _; rw [h80, h84]; rfl) ((In_any (q : Int) 0 (M1 : Int) W).mono (by rintro e W' ⟨rfl, hw⟩; subst hw; exact ⟨_, rfl, Below.refl _ _, congrArg Value.bool (decide_eq_true hin9), trivial⟩))
          · intro a W hE hb hs
            have h85 : a.eval (.tmp 85) = .bool true := hs 9 (by decide)
            refine flow0 rfl ?_
            exact val_not _ _ rfl _ h85 ⟨rfl, trivial⟩
        · intro f W hbW hT hp hd
          have hres : f 86 = .bool false := hT 10 (by decide)
          simp only [putV, List.foldl_cons, List.foldl_nil, Act.put, List.setIfInBounds_toArray, List.set_cons_succ, List.set_cons_zero, Exit.then]
          rw [hres]
          have Hend := Lib.hid hbW
          clear hT hp hd hres hbW hsub9
          go_wp2_with fail
          go_meet
          exact ⟨rfl, Hend.out⟩
      case' rest => skip
      obtain ⟨rfl, hbn⟩ := hcut
      obtain ⟨u4, h_⟩ : ∃ v, v = wc := ⟨_, rfl⟩
      subst h_
      replace HBr := Lib.hid (HBr.out.trans (hbn.mono HBr.out.size))
      have p0' := (hbn.cell (World.block_lt_of_cell? _ _ p0)).trans p0
      have g1' := (hbn.cell (World.block_lt_of_cell? _ _ g1)).trans g1
      have cy' := (hbn.cell (World.block_lt_of_cell? _ _ cy)).trans cy
      have cl' := (hbn.cell (World.block_lt_of_cell? _ _ cl)).trans cl
      clear p0 g1 cy cl hbn Hsub hin9
      go_upto_region 16 with fail
      go_quiet (fail)
      go_wp2_with fail
      exact ⟨⟨i + 1, t2, c2, l.t, by go_num, by omega, rfl, Htv.out, Hw2.out, below_drewN HBr.out _⟩, by simp [intOf]; omega⟩
    · obtain rfl : K0 = i := by omega
      have d1 : decide ((K0 : Int) < (K0 : Int)) = false := decide_eq_false (by omega)
      replace HG := Lib.hid (HG.out.below hbx HG.out.lt)
      replace HP := Lib.hid (HP.out.below hbx HP.out.lt)
      replace HBA := Lib.hid (HBA.out.below hbx HBA.out.lt)
      replace HRd := Lib.hid (HRd.out.below hbx)
      replace HLd := Lib.hid (HLd.out.below hbx)
      replace Hr1 := Lib.hid (Hr1.out.below hbx)
      replace HB := Lib.hid (HB.out.trans (hbx.mono HB.out.size))
      clear hbx
      clear li HBr
      go_upto_region 17 with fail
      clear d1
      go_cut [14, 15] from 97 to 112 (fun t14 t15 wx => ∃ (B14 B15 : Nat) (A2 A3 : Option Addr) (c2 c3 : Nat), t14 = .pointer (some ⟨B14, 0, none⟩) ∧ t15 = .pointer (some ⟨B15, 0, none⟩) ∧ Blk wx B14 44 (rsV A2 (pathC VS LS ND va at9).1.length c2 (pathC VS LS ND va at9).2.1 (pathC VS LS ND va at9).2.2).toArray ∧ Blk wx B15 44 (rsV A3 (pathC VS LS ND at9 vb').1.length c3 (pathC VS LS ND at9 vb').2.1 (pathC VS LS ND at9 vb').2.2).toArray ∧ TRd wx 3 1 A2 (pathC VS LS ND va at9).1.length ((castL (pathC VS LS ND va at9).1).map intV) ∧ TRd wx 3 1 A3 (pathC VS LS ND at9 vb').1.length ((castL (pathC VS LS ND at9 vb').1).map intV) ∧ PathOk VS LS ND va at9 ∧ PathOk VS LS ND at9 vb' ∧ Below wr.heap.size wr wx)
      case first =>
        refine wp_region_flow_tail 18 [97, 98, 99, 100, 101, 102, 103, 104, 105, 106, 107, 108, 109, 110, 111, 112, 14, 15] [(Spec.is (.agg (grV (some ⟨vb, vo, none⟩) N gc GB M gd).toArray), false), (Spec.is (.pointer (some ⟨BA, 0, none⟩)), false), (Spec.is (.int .i64 va), false), (Spec.is (.int .i64 at9), false), (Spec.is (.pointer (some ⟨BA, 2, none⟩)), false), (Spec.is (.agg (ndV ND).toArray), false), (Spec.is (.agg (asV va at9 ND).toArray), false), (spPa VS LS ND va at9, false), (Spec.is (.agg (grV (some ⟨vb, vo, none⟩) N gc GB M gd).toArray), false), (Spec.is (.int .i64 at9), false), (Spec.is (.pointer (some ⟨BA, 1, none⟩)), false), (Spec.is (.int .i64 vb'), false), (Spec.is (.pointer (some ⟨BA, 2, none⟩)), false), (Spec.is (.agg (ndV ND).toArray), false), (Spec.is (.agg (asV at9 vb' ND).toArray), false), (spPa VS LS ND at9 vb', false), (spVar 44 (rsV none 0 0 0 0).toArray, true), (spVar 44 (rsV none 0 0 0 0).toArray, true)] 152 (by kernel_rfl) (List.take_append_drop _ _) rfl (by kernel_rfl) (by kernel_rfl) (by kernel_rfl) (by decide) (by kernel_rfl) (by kernel_rfl) (fun _ _ d _ _ h => by cases d <;> exact h) rfl (by decide) rfl (by decide) (by kernel_rfl) ?_ ?_
        · refine ⟨?_, ?_, ?_, ?_, ?_, ?_, ?_, ?_, ?_, ?_, ?_, ?_, ?_, ?_, ?_, ?_, ?_, ?_, trivial⟩
          · intro a W hE hb hs
            have h8 : a.eval (.tmp 8) = .pointer (some ⟨BG, 0, none⟩) := hb 8 (by decide)
            refine flow0 rfl ?_
            exact val_load_row 33 _ rfl BG 0 h8 (grV (some ⟨vb, vo, none⟩) N gc GB M gd) d33 (Blk.range (HG.out.below (ext_below hE) HG.out.lt)) hd33 hrow33 (by rw [grV_len]; kernel_rfl) ⟨rfl, trivial⟩
          · intro a W hE hb hs
            have h9 : a.eval (.tmp 9) = .pointer (some ⟨BA, 0, none⟩) := hb 9 (by decide)
            refine flow0 rfl ?_
            intro K hK
            unfold Oper.wp execOp
            simp only [h9]
            simp [go_sem]
            exact hK _ _ ⟨Below.refl _ _, rfl, trivial⟩
          · intro a W hE hb hs
            have h98 : a.eval (.tmp 98) = .pointer (some ⟨BA, 0, none⟩) := hs 1 (by decide)
            refine flow0 rfl ?_
            have c0 : W.cell? ⟨BA, 0, none⟩ = some (.int .i64 va) := by rw [(HBA.out.below (ext_below hE) HBA.out.lt).cell]; rfl
            intro K hK
            unfold Oper.wp execOp
            simp only [h98]
            simp [go_sem, c0]
            exact hK _ _ ⟨Below.refl _ _, rfl, trivial⟩
          · intro a W hE hb hs
            have h12 : a.eval (.tmp 12) = .int .i64 at9 := hb 12 (by decide)
            refine flow0 rfl ?_
            exact val_move _ rfl _ h12 ⟨rfl, trivial⟩
          · intro a W hE hb hs
            have h9 : a.eval (.tmp 9) = .pointer (some ⟨BA, 0, none⟩) := hb 9 (by decide)
            refine flow0 rfl ?_
            intro K hK
            unfold Oper.wp execOp
            simp only [h9]
            simp [go_sem]
            exact hK _ _ ⟨Below.refl _ _, rfl, trivial⟩
          · intro a W hE hb hs
            have h101 : a.eval (.tmp 101) = .pointer (some ⟨BA, 2, none⟩) := hs 4 (by decide)
            refine flow0 rfl ?_
            exact val_load_row 28 _ rfl BA 2 h101 (ndV ND) d28 (fun j v hv => by rw [(HBA.out.below (ext_below hE) HBA.out.lt).cell, List.getElem?_toArray]; unfold asV; rw [List.getElem?_append_right (by simp)]; simpa using hv) hd28 hrow28 (by rw [ndV_len]; kernel_rfl) ⟨rfl, trivial⟩
          · intro a W hE hb hs
            have h99 : a.eval (.tmp 99) = .int .i64 va := hs 2 (by decide)
            have h100 : a.eval (.tmp 100) = .int .i64 at9 := hs 3 (by decide)
            have h102 : a.eval (.tmp 102) = .agg (ndV ND).toArray := hs 5 (by decide)
            refine flow0 rfl ?_
            exact val_build 40 _ rfl [(0, .int .i64 va), (1, .int .i64 at9), (2, .agg (ndV ND).toArray)] (by show [(0, a.eval (.tmp 99)), (1, a.eval (.tmp 100)), (2, a.eval (.tmp 102))] = _; rw [h99, h100, h102]) _ (built40 _ _ _) ⟨rfl, trivial⟩
          · intro a W hE hb hs
            have h97 : a.eval (.tmp 97) = .agg (grV (some ⟨vb, vo, none⟩) N gc GB M gd).toArray := hs 0 (by decide)
            have h103 : a.eval (.tmp 103) = .agg (asV va at9 ND).toArray := hs 6 (by decide)
            refine flow0 rfl ?_
            exact val_call 18 _ _ rfl (by kernel_rfl) [.agg (grV (some ⟨vb, vo, none⟩) N gc GB M gd).toArray, .agg (asV va at9 ND).toArray] (by show [a.eval (.tmp 97), a.eval (.tmp 103)] = _; rw [h97, h103]) ((path_C _ _ _ _ _ _ VS LS va at9 ND W (HRd.out.rd.below (ext_below hE)) (HLd.out.rd.below (ext_below hE)) Hvg.out).mono (by rintro e W' ⟨⟨A', c', rfl, hr, hp⟩, hb⟩; exact ⟨_, rfl, hb, ⟨A', c', rfl, hr, hp⟩, trivial⟩))
          · intro a W hE hb hs
            have h8 : a.eval (.tmp 8) = .pointer (some ⟨BG, 0, none⟩) := hb 8 (by decide)
            refine flow0 rfl ?_
            exact val_load_row 33 _ rfl BG 0 h8 (grV (some ⟨vb, vo, none⟩) N gc GB M gd) d33 (Blk.range (HG.out.below (ext_below hE) HG.out.lt)) hd33 hrow33 (by rw [grV_len]; kernel_rfl) ⟨rfl, trivial⟩
          · intro a W hE hb hs
            have h12 : a.eval (.tmp 12) = .int .i64 at9 := hb 12 (by decide)
            refine flow0 rfl ?_
            exact val_move _ rfl _ h12 ⟨rfl, trivial⟩
          · intro a W hE hb hs
            have h9 : a.eval (.tmp 9) = .pointer (some ⟨BA, 0, none⟩) := hb 9 (by decide)
            refine flow0 rfl ?_
            intro K hK
            unfold Oper.wp execOp
            simp only [h9]
            simp [go_sem]
            exact hK _ _ ⟨Below.refl _ _, rfl, trivial⟩
          · intro a W hE hb hs
            have h107 : a.eval (.tmp 107) = .pointer (some ⟨BA, 1, none⟩) := hs 10 (by decide)
            refine flow0 rfl ?_
            have c0 : W.cell? ⟨BA, 1, none⟩ = some (.int .i64 vb') := by rw [(HBA.out.below (ext_below hE) HBA.out.lt).cell]; rfl
            intro K hK
            unfold Oper.wp execOp
            simp only [h107]
            simp [go_sem, c0]
            exact hK _ _ ⟨Below.refl _ _, rfl, trivial⟩
          · intro a W hE hb hs
            have h9 : a.eval (.tmp 9) = .pointer (some ⟨BA, 0, none⟩) := hb 9 (by decide)
            refine flow0 rfl ?_
            intro K hK
            unfold Oper.wp execOp
            simp only [h9]
            simp [go_sem]
            exact hK _ _ ⟨Below.refl _ _, rfl, trivial⟩
          · intro a W hE hb hs
            have h109 : a.eval (.tmp 109) = .pointer (some ⟨BA, 2, none⟩) := hs 12 (by decide)
            refine flow0 rfl ?_
            exact val_load_row 28 _ rfl BA 2 h109 (ndV ND) d28 (fun j v hv => by rw [(HBA.out.below (ext_below hE) HBA.out.lt).cell, List.getElem?_toArray]; unfold asV; rw [List.getElem?_append_right (by simp)]; simpa using hv) hd28 hrow28 (by rw [ndV_len]; kernel_rfl) ⟨rfl, trivial⟩
          · intro a W hE hb hs
            have h106 : a.eval (.tmp 106) = .int .i64 at9 := hs 9 (by decide)
            have h108 : a.eval (.tmp 108) = .int .i64 vb' := hs 11 (by decide)
            have h110 : a.eval (.tmp 110) = .agg (ndV ND).toArray := hs 13 (by decide)
            refine flow0 rfl ?_
            exact val_build 40 _ rfl [(0, .int .i64 at9), (1, .int .i64 vb'), (2, .agg (ndV ND).toArray)] (by show [(0, a.eval (.tmp 106)), (1, a.eval (.tmp 108)), (2, a.eval (.tmp 110))] = _; rw [h106, h108, h110]) _ (built40 _ _ _) ⟨rfl, trivial⟩
          · intro a W hE hb hs
            have h105 : a.eval (.tmp 105) = .agg (grV (some ⟨vb, vo, none⟩) N gc GB M gd).toArray := hs 8 (by decide)
            have h111 : a.eval (.tmp 111) = .agg (asV at9 vb' ND).toArray := hs 14 (by decide)
            refine flow0 rfl ?_
            exact val_call 18 _ _ rfl (by kernel_rfl) [.agg (grV (some ⟨vb, vo, none⟩) N gc GB M gd).toArray, .agg (asV at9 vb' ND).toArray] (by show [a.eval (.tmp 105), a.eval (.tmp 111)] = _; rw [h105, h111]) ((path_C _ _ _ _ _ _ VS LS at9 vb' ND W (HRd.out.rd.below (ext_below hE)) (HLd.out.rd.below (ext_below hE)) Hvg.out).mono (by rintro e W' ⟨⟨A', c', rfl, hr, hp⟩, hb⟩; exact ⟨_, rfl, hb, ⟨A', c', rfl, hr, hp⟩, trivial⟩))
          · intro a W hE hb hs
            refine flow0 rfl ?_
            exact val_alloc _ rfl (rsV none 0 0 0 0).toArray _ i44 hi44 hz44 rfl ⟨⟨_, rfl, Blk.new _ _ _⟩, _, rfl, Nat.le_refl _, by rw [World.size_alloc]; omega⟩
          · intro a W hE hb hs
            refine flow0 rfl ?_
            exact val_alloc _ rfl (rsV none 0 0 0 0).toArray _ i44 hi44 hz44 rfl ⟨⟨_, rfl, Blk.new _ _ _⟩, _, rfl, Nat.le_refl _, by rw [World.size_alloc]; omega⟩
        · intro f W hbW hT hp hd
          obtain ⟨A2, c2, e104, hr1, ok1⟩ : ∃ (A : Option Addr) (c : Nat), f 104 = .agg (rsV A (pathC VS LS ND va at9).1.length c (pathC VS LS ND va at9).2.1 (pathC VS LS ND va at9).2.2).toArray ∧ TRd W 3 1 A (pathC VS LS ND va at9).1.length ((castL (pathC VS LS ND va at9).1).map intV) ∧ PathOk VS LS ND va at9 := hT 7 (by decide)
          obtain ⟨A3, c3, e112, hr2, ok2⟩ : ∃ (A : Option Addr) (c : Nat), f 112 = .agg (rsV A (pathC VS LS ND at9 vb').1.length c (pathC VS LS ND at9 vb').2.1 (pathC VS LS ND at9 vb').2.2).toArray ∧ TRd W 3 1 A (pathC VS LS ND at9 vb').1.length ((castL (pathC VS LS ND at9 vb').1).map intV) ∧ PathOk VS LS ND at9 vb' := hT 15 (by decide)
          obtain ⟨B14, eB14, hB14⟩ : ∃ B, f 14 = .pointer (some ⟨B, 0, none⟩) ∧ Blk W B 44 (rsV none 0 0 0 0).toArray := hT 16 (by decide)
          have lB14 : wr.heap.size ≤ B14 := by
            obtain ⟨b', h1, h2, _⟩ := hp 16 (by decide) rfl
            have h1' : f 14 = .pointer (some ⟨b', 0, none⟩) := h1
            rw [eB14] at h1'
            injection h1' with h; injection h with h; injection h with h
            omega
          obtain ⟨B15, eB15, hB15⟩ : ∃ B, f 15 = .pointer (some ⟨B, 0, none⟩) ∧ Blk W B 44 (rsV none 0 0 0 0).toArray := hT 17 (by decide)
          have lB15 : wr.heap.size ≤ B15 := by
            obtain ⟨b', h1, h2, _⟩ := hp 17 (by decide) rfl
            have h1' : f 15 = .pointer (some ⟨b', 0, none⟩) := h1
            rw [eB15] at h1'
            injection h1' with h; injection h with h; injection h with h
            omega
          have nB14B15 : B14 ≠ B15 := fun e => hd 16 17 (by decide) (by decide) (by decide) rfl rfl (by show f 14 = f 15; rw [eB14, eB15, e])
          have nB15B14 : B15 ≠ B14 := fun e => nB14B15 e.symm
          have hbZ := hbW
          have HK0 := (KeptIn.refl (fun k => k ≠ B14) (W)).setRow (g := B14) (fun h => h rfl) (rsV A2 (pathC VS LS ND va at9).1.length c2 (pathC VS LS ND va at9).2.1 (pathC VS LS ND va at9).2.2).toArray
          have sB14 := hB14
          replace hr1 := hr1.kept hB14 (by decide) HK0
          replace hr2 := hr2.kept hB14 (by decide) HK0
          replace hB15 := hB15.keptIn HK0 nB15B14
          replace hB14 : Blk ((W).setRow B14 (rsV A2 (pathC VS LS ND va at9).1.length c2 (pathC VS LS ND va at9).2.1 (pathC VS LS ND va at9).2.2).toArray) B14 44 (rsV A2 (pathC VS LS ND va at9).1.length c2 (pathC VS LS ND va at9).2.1 (pathC VS LS ND va at9).2.2).toArray := setRow_heap _ _ _ _ _ _ sB14
          replace hbZ := Below.setRow hbZ lB14 (rsV A2 (pathC VS LS ND va at9).1.length c2 (pathC VS LS ND va at9).2.1 (pathC VS LS ND va at9).2.2).toArray
          have HK1 := (KeptIn.refl (fun k => k ≠ B15) ((W).setRow B14 (rsV A2 (pathC VS LS ND va at9).1.length c2 (pathC VS LS ND va at9).2.1 (pathC VS LS ND va at9).2.2).toArray)).setRow (g := B15) (fun h => h rfl) (rsV A3 (pathC VS LS ND at9 vb').1.length c3 (pathC VS LS ND at9 vb').2.1 (pathC VS LS ND at9 vb').2.2).toArray
          have sB15 := hB15
          replace hr1 := hr1.kept hB15 (by decide) HK1
          replace hr2 := hr2.kept hB15 (by decide) HK1
          replace hB14 := hB14.keptIn HK1 nB14B15
          replace hB15 : Blk (((W).setRow B14 (rsV A2 (pathC VS LS ND va at9).1.length c2 (pathC VS LS ND va at9).2.1 (pathC VS LS ND va at9).2.2).toArray).setRow B15 (rsV A3 (pathC VS LS ND at9 vb').1.length c3 (pathC VS LS ND at9 vb').2.1 (pathC VS LS ND at9 vb').2.2).toArray) B15 44 (rsV A3 (pathC VS LS ND at9 vb').1.length c3 (pathC VS LS ND at9 vb').2.1 (pathC VS LS ND at9 vb').2.2).toArray := setRow_heap _ _ _ _ _ _ sB15
          replace hbZ := Below.setRow hbZ lB15 (rsV A3 (pathC VS LS ND at9 vb').1.length c3 (pathC VS LS ND at9 vb').2.1 (pathC VS LS ND at9 vb').2.2).toArray
          simp only [List.drop_succ_cons, List.drop_zero]
          simp only [putV, List.foldl_cons, List.foldl_nil, Act.put, List.setIfInBounds_toArray, List.set_cons_succ, List.set_cons_zero]
          rw [eB14, eB15, e104, e112]
          refine wpList_store_row rfl 44 (.tmp 14) (.tmp 104) rfl B14 (rsV A2 (pathC VS LS ND va at9).1.length c2 (pathC VS LS ND va at9).2.1 (pathC VS LS ND va at9).2.2).toArray rfl rfl 44 (rsV none 0 0 0 0).toArray sB14 (size44 _ rfl) rfl (rs_one _ _ _ _ _) ?_
          refine wpList_store_row rfl 44 (.tmp 15) (.tmp 112) rfl B15 (rsV A3 (pathC VS LS ND at9 vb').1.length c3 (pathC VS LS ND at9 vb').2.1 (pathC VS LS ND at9 vb').2.2).toArray rfl rfl 44 (rsV none 0 0 0 0).toArray sB15 (size44 _ rfl) rfl (rs_one _ _ _ _ _) ?_
          refine wpList_nil ?_
          have HX := Lib.hid (And.intro hB14 (And.intro hB15 (And.intro hr1 (And.intro hr2 (And.intro ok1 (And.intro ok2 hbZ))))))
          clear hT hp hd HK0 HK1 sB14 sB15 hB14 hB15 hbZ hbW ok1 ok2 hr1 hr2
          go_wp2_with fail
          go_meet
          exact ⟨B14, B15, A2, A3, c2, c3, rfl, rfl, HX.out⟩
      case' rest => skip
      obtain ⟨B14, B15, A2, A3, c2, c3, rfl, rfl, h14, h15, hr2, hr3, ok1, ok2, hbn⟩ := hcut
      obtain ⟨u5, h_⟩ : ∃ v, v = wc := ⟨_, rfl⟩
      subst h_
      obtain ⟨t1, q1, q2, hb1, hb2, hq12⟩ : ∃ (t1 q1 q2 : Nat), Gr.Best (lksN VS ND LS) s t1 (some (q1, L.take K0)) ∧ Gr.Best (lksN VS ND LS) t1 t (some (q2, L.drop K0)) ∧ q1 + q2 = ws.1 := by
        rw [HLw.out]
        exact Hbs.out.parts K0 (by rw [← HLw.out]; exact hKL)
      obtain rfl : t1 = t' := Hwk.out.det hb1.1 rfl
      have hpa := path_is Hvg.out ok1 Hs.out Hat.out hb1
      have hpb := path_is Hvg.out ok2 Hat.out Ht.out hb2
      rw [hpa] at h14 hr2
      rw [hpb] at h15 hr3
      simp only at h14 h15 hr2 hr3
      rw [List.length_take, Nat.min_eq_left hKL] at h14 hr2
      rw [List.length_drop] at h15 hr3
      obtain ⟨n2, hn2⟩ : ∃ n2, n2 = (q1 : Int) := ⟨_, rfl⟩
      obtain ⟨n3, hn3⟩ : ∃ n3, n3 = (q2 : Int) := ⟨_, rfl⟩
      have hwb := pathC_bd Hvg.out Hok.out
      rw [← Hp1.out] at hwb
      simp only at hwb
      have hsum9 : IntKind.i64.wrap (n2 + n3) = n1 := (IntWalk.i64_left _).trans (show wrap64 (n2 + n3) = n1 by have := Hnw.out; unfold wrap64; omega)
      rw [← hn2] at h14
      rw [← hn3] at h15
      have HB14 := Lib.hid h14
      have HB15 := Lib.hid h15
      have Hr2 := Lib.hid hr2
      have Hr3 := Lib.hid hr3
      replace HP := Lib.hid (HP.out.below hbn HP.out.lt)
      replace Hr1 := Lib.hid (Hr1.out.below hbn)
      replace HB := Lib.hid (HB.out.trans (hbn.mono HB.out.size))
      clear hbn
      clear h14 h15 hr2 hr3 ok1 ok2 hb1 hb2 hq12 hpa hpb hn2 hn3 hwb HG HBA HRd HLd
      go_upto_region 18 with fail
      go_cut [6] from 113 to 151 (fun t6 wx => t6 = .bool true ∧ Below u5.heap.size u5 wx)
      case first =>
        refine wp_region_flowF [113, 114, 115, 116, 117, 118, 119, 120, 121, 122, 123, 124, 125, 126, 127, 128, 129, 130, 131, 132, 133, 134, 135, 136, 137, 138, 139, 140, 141, 142, 143, 144, 145, 146, 147, 148, 149, 150, 151, 6] [(Spec.is (.pointer (some ⟨B14, 2, none⟩)), false), (Spec.is (.int .i64 0), false), (Spec.is (.bool true), false), (Spec.is (.bool true), false), (Spec.is (.pointer (some ⟨B15, 2, none⟩)), false), (Spec.is (.int .i64 0), false), (Spec.is (.bool true), false), (Spec.is (.bool true), false), (Spec.is (.bool true), false), (Spec.is (.pointer (some ⟨B14, 0, none⟩)), false), (Spec.is (.slice A2 K0 c2), false), (Spec.is (.pointer (some ⟨BP, 0, none⟩)), false), (Spec.is (.slice A1 L.length c1), false), (Spec.is (.int .i64 (K0 : Int)), false), (Spec.is (.slice A1 K0 c1), false), (Spec.is (.bool true), false), (Spec.is (.bool true), false), (Spec.is (.bool true), false), (Spec.is (.pointer (some ⟨B15, 0, none⟩)), false), (Spec.is (.slice A3 (L.length - K0) c3), false), (Spec.is (.pointer (some ⟨BP, 0, none⟩)), false), (Spec.is (.slice A1 L.length c1), false), (Spec.is (.int .i64 (K0 : Int)), false), (spDr (L.length - K0) (c1 - K0) ((castL L).drop K0), false), (Spec.is (.bool true), false), (Spec.is (.bool true), false), (Spec.is (.bool true), false), (Spec.is (.pointer (some ⟨B14, 1, none⟩)), false), (Spec.is (.int .i64 n2), false), (Spec.is (.pointer (some ⟨B15, 1, none⟩)), false), (Spec.is (.int .i64 n3), false), (Spec.is (.int .i64 n1), false), (Spec.is (.pointer (some ⟨BP, 1, none⟩)), false), (Spec.is (.int .i64 n1), false), (Spec.is (.bool true), false), (Spec.is (.bool true), false), (Spec.is (.bool true), false), (Spec.is (.bool true), false), (Spec.is (.bool true), false), (Spec.is (.bool true), false)] 152 (by kernel_rfl) rfl (by decide) rfl (by decide) (by kernel_rfl) ?_ ?_
        · refine ⟨?_, ?_, ?_, ?_, ?_, ?_, ?_, ?_, ?_, ?_, ?_, ?_, ?_, ?_, ?_, ?_, ?_, ?_, ?_, ?_, ?_, ?_, ?_, ?_, ?_, ?_, ?_, ?_, ?_, ?_, ?_, ?_, ?_, ?_, ?_, ?_, ?_, ?_, ?_, ?_, trivial⟩
          · intro a W hE hb hs
            have h14 : a.eval (.tmp 14) = .pointer (some ⟨B14, 0, none⟩) := hb 14 (by decide)
            refine flow0 rfl ?_
            intro K hK
            unfold Oper.wp execOp
            simp only [h14]
            simp [go_sem]
            exact hK _ _ ⟨Below.refl _ _, rfl, trivial⟩
          · intro a W hE hb hs
            have h113 : a.eval (.tmp 113) = .pointer (some ⟨B14, 2, none⟩) := hs 0 (by decide)
            refine flow0 rfl ?_
            have c0 : W.cell? ⟨B14, 2, none⟩ = some (.int .i64 0) := by rw [(HB14.out.below (ext_below hE) HB14.out.lt).cell]; rfl
            intro K hK
            unfold Oper.wp execOp
            simp only [h113]
            simp [go_sem, c0]
            exact hK _ _ ⟨Below.refl _ _, rfl, trivial⟩
          · intro a W hE hb hs
            have h114 : a.eval (.tmp 114) = .int .i64 0 := hs 1 (by decide)
            refine flow0 rfl ?_
            exact val_eqI _ _ _ _ rfl 0 0 h114 rfl ⟨rfl, trivial⟩
          · intro a W hE hb hs
            have h115 : a.eval (.tmp 115) = .bool true := hs 2 (by decide)
            refine flow0 rfl ?_
            exact val_move _ rfl _ h115 ⟨rfl, trivial⟩
          · intro a W hE hb hs
            have h116 : a.eval (.tmp 116) = .bool true := hs 3 (by decide)
            have h15 : a.eval (.tmp 15) = .pointer (some ⟨B15, 0, none⟩) := hb 15 (by decide)
            refine flowY rfl rfl h116 ?_
            intro K hK
            unfold Oper.wp execOp
            simp only [h15]
            simp [go_sem]
            exact hK _ _ ⟨Below.refl _ _, rfl, trivial⟩
          · intro a W hE hb hs
            have h116 : a.eval (.tmp 116) = .bool true := hs 3 (by decide)
            have h117 : a.eval (.tmp 117) = .pointer (some ⟨B15, 2, none⟩) := hs 4 (by decide)
            refine flowY rfl rfl h116 ?_
            have c0 : W.cell? ⟨B15, 2, none⟩ = some (.int .i64 0) := by rw [(HB15.out.below (ext_below hE) HB15.out.lt).cell]; rfl
            intro K hK
            unfold Oper.wp execOp
            simp only [h117]
            simp [go_sem, c0]
            exact hK _ _ ⟨Below.refl _ _, rfl, trivial⟩
          · intro a W hE hb hs
            have h116 : a.eval (.tmp 116) = .bool true := hs 3 (by decide)
            have h118 : a.eval (.tmp 118) = .int .i64 0 := hs 5 (by decide)
            refine flowY rfl rfl h116 ?_
            exact val_eqI _ _ _ _ rfl 0 0 h118 rfl ⟨rfl, trivial⟩
          · intro a W hE hb hs
            have h116 : a.eval (.tmp 116) = .bool true := hs 3 (by decide)
            have h119 : a.eval (.tmp 119) = .bool true := hs 6 (by decide)
            refine flow0 rfl ?_
            exact val_pick _ _ _ rfl true h116 _ (by rw [if_pos rfl]; exact h119) ⟨rfl, trivial⟩
          · intro a W hE hb hs
            have h120 : a.eval (.tmp 120) = .bool true := hs 7 (by decide)
            refine flow0 rfl ?_
            exact val_move _ rfl _ h120 ⟨rfl, trivial⟩
          · intro a W hE hb hs
            have h121 : a.eval (.tmp 121) = .bool true := hs 8 (by decide)
            have h14 : a.eval (.tmp 14) = .pointer (some ⟨B14, 0, none⟩) := hb 14 (by decide)
            refine flowY rfl rfl h121 ?_
            intro K hK
            unfold Oper.wp execOp
            simp only [h14]
            simp [go_sem]
            exact hK _ _ ⟨Below.refl _ _, rfl, trivial⟩
          · intro a W hE hb hs
            have h121 : a.eval (.tmp 121) = .bool true := hs 8 (by decide)
            have h122 : a.eval (.tmp 122) = .pointer (some ⟨B14, 0, none⟩) := hs 9 (by decide)
            refine flowY rfl rfl h121 ?_
            have c0 : W.cell? ⟨B14, 0, none⟩ = some (.slice A2 K0 c2) := by rw [(HB14.out.below (ext_below hE) HB14.out.lt).cell]; rfl
            intro K hK
            unfold Oper.wp execOp
            simp only [h122]
            simp [go_sem, c0]
            exact hK _ _ ⟨Below.refl _ _, rfl, trivial⟩
          · intro a W hE hb hs
            have h121 : a.eval (.tmp 121) = .bool true := hs 8 (by decide)
            have h10 : a.eval (.tmp 10) = .pointer (some ⟨BP, 0, none⟩) := hb 10 (by decide)
            refine flowY rfl rfl h121 ?_
            intro K hK
            unfold Oper.wp execOp
            simp only [h10]
            simp [go_sem]
            exact hK _ _ ⟨Below.refl _ _, rfl, trivial⟩
          · intro a W hE hb hs
            have h121 : a.eval (.tmp 121) = .bool true := hs 8 (by decide)
            have h124 : a.eval (.tmp 124) = .pointer (some ⟨BP, 0, none⟩) := hs 11 (by decide)
            refine flowY rfl rfl h121 ?_
            have c0 : W.cell? ⟨BP, 0, none⟩ = some (.slice A1 L.length c1) := by rw [(HP.out.below (ext_below hE) HP.out.lt).cell]; rfl
            intro K hK
            unfold Oper.wp execOp
            simp only [h124]
            simp [go_sem, c0]
            exact hK _ _ ⟨Below.refl _ _, rfl, trivial⟩
          · intro a W hE hb hs
            have h121 : a.eval (.tmp 121) = .bool true := hs 8 (by decide)
            have h11 : a.eval (.tmp 11) = .int .i64 (K0 : Int) := hb 11 (by decide)
            refine flowY rfl rfl h121 ?_
            exact val_move _ rfl _ h11 ⟨rfl, trivial⟩
          · intro a W hE hb hs
            have h121 : a.eval (.tmp 121) = .bool true := hs 8 (by decide)
            have h125 : a.eval (.tmp 125) = .slice A1 L.length c1 := hs 12 (by decide)
            have h126 : a.eval (.tmp 126) = .int .i64 (K0 : Int) := hs 13 (by decide)
            refine flowY rfl rfl h121 ?_
            exact val_slice_hi _ _ _ rfl A1 L.length c1 K0 h125 h126 (run_ints_at_head _ _ _ _ (by omega) _) ⟨rfl, trivial⟩
          · intro a W hE hb hs
            have h121 : a.eval (.tmp 121) = .bool true := hs 8 (by decide)
            have h123 : a.eval (.tmp 123) = .slice A2 K0 c2 := hs 10 (by decide)
            have h127 : a.eval (.tmp 127) = .slice A1 K0 c1 := hs 14 (by decide)
            refine flowY rfl rfl h121 ?_
            exact val_call 14 _ _ rfl (by kernel_rfl) [.slice A2 K0 c2, .slice A1 K0 c1] (by show [a.eval (.tmp 123), a.eval (.tmp 127)] = _; rw [h123, h127]) ((Ints_any A2 A1 _ _ c2 c1 (castL (L.take K0)) ((castL L).take K0) W (Hr2.out.rd.below (ext_below hE)) ((Hr1.out.rd.below (ext_below hE)).take1 (by omega))).mono (by rintro e W' ⟨rfl, hb⟩; exact ⟨_, rfl, hb, congrArg Value.bool (decide_eq_true (castL_take L K0)), trivial⟩))
          · intro a W hE hb hs
            have h121 : a.eval (.tmp 121) = .bool true := hs 8 (by decide)
            have h128 : a.eval (.tmp 128) = .bool true := hs 15 (by decide)
            refine flow0 rfl ?_
            exact val_pick _ _ _ rfl true h121 _ (by rw [if_pos rfl]; exact h128) ⟨rfl, trivial⟩
          · intro a W hE hb hs
            have h129 : a.eval (.tmp 129) = .bool true := hs 16 (by decide)
            refine flow0 rfl ?_
            exact val_move _ rfl _ h129 ⟨rfl, trivial⟩
          · intro a W hE hb hs
            have h130 : a.eval (.tmp 130) = .bool true := hs 17 (by decide)
            have h15 : a.eval (.tmp 15) = .pointer (some ⟨B15, 0, none⟩) := hb 15 (by decide)
            refine flowY rfl rfl h130 ?_
            intro K hK
            unfold Oper.wp execOp
            simp only [h15]
            simp [go_sem]
            exact hK _ _ ⟨Below.refl _ _, rfl, trivial⟩
          · intro a W hE hb hs
            have h130 : a.eval (.tmp 130) = .bool true := hs 17 (by decide)
            have h131 : a.eval (.tmp 131) = .pointer (some ⟨B15, 0, none⟩) := hs 18 (by decide)
            refine flowY rfl rfl h130 ?_
            have c0 : W.cell? ⟨B15, 0, none⟩ = some (.slice A3 (L.length - K0) c3) := by rw [(HB15.out.below (ext_below hE) HB15.out.lt).cell]; rfl
            intro K hK
            unfold Oper.wp execOp
            simp only [h131]
            simp [go_sem, c0]
            exact hK _ _ ⟨Below.refl _ _, rfl, trivial⟩
          · intro a W hE hb hs
            have h130 : a.eval (.tmp 130) = .bool true := hs 17 (by decide)
            have h10 : a.eval (.tmp 10) = .pointer (some ⟨BP, 0, none⟩) := hb 10 (by decide)
            refine flowY rfl rfl h130 ?_
            intro K hK
            unfold Oper.wp execOp
            simp only [h10]
            simp [go_sem]
            exact hK _ _ ⟨Below.refl _ _, rfl, trivial⟩
          · intro a W hE hb hs
            have h130 : a.eval (.tmp 130) = .bool true := hs 17 (by decide)
            have h133 : a.eval (.tmp 133) = .pointer (some ⟨BP, 0, none⟩) := hs 20 (by decide)
            refine flowY rfl rfl h130 ?_
            have c0 : W.cell? ⟨BP, 0, none⟩ = some (.slice A1 L.length c1) := by rw [(HP.out.below (ext_below hE) HP.out.lt).cell]; rfl
            intro K hK
            unfold Oper.wp execOp
            simp only [h133]
            simp [go_sem, c0]
            exact hK _ _ ⟨Below.refl _ _, rfl, trivial⟩
          · intro a W hE hb hs
            have h130 : a.eval (.tmp 130) = .bool true := hs 17 (by decide)
            have h11 : a.eval (.tmp 11) = .int .i64 (K0 : Int) := hb 11 (by decide)
            refine flowY rfl rfl h130 ?_
            exact val_move _ rfl _ h11 ⟨rfl, trivial⟩
          · intro a W hE hb hs
            have h130 : a.eval (.tmp 130) = .bool true := hs 17 (by decide)
            have h134 : a.eval (.tmp 134) = .slice A1 L.length c1 := hs 21 (by decide)
            have h135 : a.eval (.tmp 135) = .int .i64 (K0 : Int) := hs 22 (by decide)
            refine flowY rfl rfl h130 ?_
            obtain ⟨A', hA', hrd'⟩ := ints_drop (Hr1.out.rd.below (ext_below hE)) (show K0 ≤ L.length by omega) c1 hcp
            exact val_slice_lo _ _ _ rfl A1 L.length c1 K0 h134 h135 hA' ⟨⟨A', rfl, hrd'⟩, trivial⟩
          · intro a W hE hb hs
            have h130 : a.eval (.tmp 130) = .bool true := hs 17 (by decide)
            have h136 : ∃ (A' : Option Addr), (a.eval (.tmp 136)) = .slice A' (L.length - K0) (c1 - K0) ∧ Rd W 1 A' (L.length - K0) (((castL L).drop K0).map intV) := hs 23 (by decide)
            have h132 : a.eval (.tmp 132) = .slice A3 (L.length - K0) c3 := hs 19 (by decide)
            refine flowY rfl rfl h130 ?_
            obtain ⟨A', e1, r1⟩ := h136
            exact val_call 14 _ _ rfl (by kernel_rfl) [.slice A3 (L.length - K0) c3, .slice A' (L.length - K0) (c1 - K0)] (by show [a.eval (.tmp 132), a.eval (.tmp 136)] = _; rw [h132, e1]) ((Ints_any A3 A' _ _ c3 _ (castL (L.drop K0)) ((castL L).drop K0) W (Hr3.out.rd.below (ext_below hE)) r1).mono (by rintro e W' ⟨rfl, hb⟩; exact ⟨_, rfl, hb, congrArg Value.bool (decide_eq_true (castL_drop L K0)), trivial⟩))
          · intro a W hE hb hs
            have h130 : a.eval (.tmp 130) = .bool true := hs 17 (by decide)
            have h137 : a.eval (.tmp 137) = .bool true := hs 24 (by decide)
            refine flow0 rfl ?_
            exact val_pick _ _ _ rfl true h130 _ (by rw [if_pos rfl]; exact h137) ⟨rfl, trivial⟩
          · intro a W hE hb hs
            have h138 : a.eval (.tmp 138) = .bool true := hs 25 (by decide)
            refine flow0 rfl ?_
            exact val_move _ rfl _ h138 ⟨rfl, trivial⟩
          · intro a W hE hb hs
            have h139 : a.eval (.tmp 139) = .bool true := hs 26 (by decide)
            have h14 : a.eval (.tmp 14) = .pointer (some ⟨B14, 0, none⟩) := hb 14 (by decide)
            refine flowY rfl rfl h139 ?_
            intro K hK
            unfold Oper.wp execOp
            simp only [h14]
            simp [go_sem]
            exact hK _ _ ⟨Below.refl _ _, rfl, trivial⟩
          · intro a W hE hb hs
            have h139 : a.eval (.tmp 139) = .bool true := hs 26 (by decide)
            have h140 : a.eval (.tmp 140) = .pointer (some ⟨B14, 1, none⟩) := hs 27 (by decide)
            refine flowY rfl rfl h139 ?_
            have c0 : W.cell? ⟨B14, 1, none⟩ = some (.int .i64 n2) := by rw [(HB14.out.below (ext_below hE) HB14.out.lt).cell]; rfl
            intro K hK
            unfold Oper.wp execOp
            simp only [h140]
            simp [go_sem, c0]
            exact hK _ _ ⟨Below.refl _ _, rfl, trivial⟩
          · intro a W hE hb hs
            have h139 : a.eval (.tmp 139) = .bool true := hs 26 (by decide)
            have h15 : a.eval (.tmp 15) = .pointer (some ⟨B15, 0, none⟩) := hb 15 (by decide)
            refine flowY rfl rfl h139 ?_
            intro K hK
            unfold Oper.wp execOp
            simp only [h15]
            simp [go_sem]
            exact hK _ _ ⟨Below.refl _ _, rfl, trivial⟩
          · intro a W hE hb hs
            have h139 : a.eval (.tmp 139) = .bool true := hs 26 (by decide)
            have h142 : a.eval (.tmp 142) = .pointer (some ⟨B15, 1, none⟩) := hs 29 (by decide)
            refine flowY rfl rfl h139 ?_
            have c0 : W.cell? ⟨B15, 1, none⟩ = some (.int .i64 n3) := by rw [(HB15.out.below (ext_below hE) HB15.out.lt).cell]; rfl
            intro K hK
            unfold Oper.wp execOp
            simp only [h142]
            simp [go_sem, c0]
            exact hK _ _ ⟨Below.refl _ _, rfl, trivial⟩
          · intro a W hE hb hs
            have h139 : a.eval (.tmp 139) = .bool true := hs 26 (by decide)
            have h141 : a.eval (.tmp 141) = .int .i64 n2 := hs 28 (by decide)
            have h143 : a.eval (.tmp 143) = .int .i64 n3 := hs 30 (by decide)
            refine flowY rfl rfl h139 ?_
            intro K hK
            unfold Oper.wp execOp
            simp only [h141, h143]
            simp [go_sem, hsum9]
            exact hK _ _ ⟨Below.refl _ _, rfl, trivial⟩
          · intro a W hE hb hs
            have h139 : a.eval (.tmp 139) = .bool true := hs 26 (by decide)
            have h10 : a.eval (.tmp 10) = .pointer (some ⟨BP, 0, none⟩) := hb 10 (by decide)
            refine flowY rfl rfl h139 ?_
            intro K hK
            unfold Oper.wp execOp
            simp only [h10]
            simp [go_sem]
            exact hK _ _ ⟨Below.refl _ _, rfl, trivial⟩
          · intro a W hE hb hs
            have h139 : a.eval (.tmp 139) = .bool true := hs 26 (by decide)
            have h145 : a.eval (.tmp 145) = .pointer (some ⟨BP, 1, none⟩) := hs 32 (by decide)
            refine flowY rfl rfl h139 ?_
            have c0 : W.cell? ⟨BP, 1, none⟩ = some (.int .i64 n1) := by rw [(HP.out.below (ext_below hE) HP.out.lt).cell]; rfl
            intro K hK
            unfold Oper.wp execOp
            simp only [h145]
            simp [go_sem, c0]
            exact hK _ _ ⟨Below.refl _ _, rfl, trivial⟩
          · intro a W hE hb hs
            have h139 : a.eval (.tmp 139) = .bool true := hs 26 (by decide)
            have h144 : a.eval (.tmp 144) = .int .i64 n1 := hs 31 (by decide)
            have h146 : a.eval (.tmp 146) = .int .i64 n1 := hs 33 (by decide)
            refine flowY rfl rfl h139 ?_
            exact val_eqI _ _ _ _ rfl n1 n1 h144 h146 ⟨congrArg Value.bool (by simp), trivial⟩
          · intro a W hE hb hs
            have h139 : a.eval (.tmp 139) = .bool true := hs 26 (by decide)
            have h147 : a.eval (.tmp 147) = .bool true := hs 34 (by decide)
            refine flow0 rfl ?_
            exact val_pick _ _ _ rfl true h139 _ (by rw [if_pos rfl]; exact h147) ⟨rfl, trivial⟩
          · intro a W hE hb hs
            have h148 : a.eval (.tmp 148) = .bool true := hs 35 (by decide)
            refine flow0 rfl ?_
            exact val_move _ rfl _ h148 ⟨rfl, trivial⟩
          · intro a W hE hb hs
            have h149 : a.eval (.tmp 149) = .bool true := hs 36 (by decide)
            have h7 : a.eval (.tmp 7) = .bool true := hb 7 (by decide)
            refine flowY rfl rfl h149 ?_
            exact val_move _ rfl _ h7 ⟨rfl, trivial⟩
          · intro a W hE hb hs
            have h149 : a.eval (.tmp 149) = .bool true := hs 36 (by decide)
            have h150 : a.eval (.tmp 150) = .bool true := hs 37 (by decide)
            refine flow0 rfl ?_
            exact val_pick _ _ _ rfl true h149 _ (by rw [if_pos rfl]; exact h150) ⟨rfl, trivial⟩
          · intro a W hE hb hs
            have h151 : a.eval (.tmp 151) = .bool true := hs 38 (by decide)
            refine flow0 rfl ?_
            exact val_assign _ rfl _ h151 ⟨rfl, trivial⟩
        · intro f W hbW hT hp hd
          have hres : f 6 = .bool true := hT 39 (by decide)
          simp only [putV, List.foldl_cons, List.foldl_nil, Act.put, List.setIfInBounds_toArray, List.set_cons_succ, List.set_cons_zero, Exit.then]
          rw [hres]
          have Hend := Lib.hid hbW
          clear hT hp hd hres hbW
          go_wp2_with fail
          go_meet
          exact ⟨rfl, Hend.out⟩
      case' rest => skip
      obtain ⟨rfl, hbn⟩ := hcut
      have HBz := Lib.hid (HB.out.trans (hbn.mono HB.out.size))
      clear hbn
      go_wp2_with fail
      go_ret
      exact ⟨rfl, HBz.out⟩
end Go.Proofs.Ytgelchbbknckcaa
