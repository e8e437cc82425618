/- Package graph's reference: All, the walk. -/
import Derived.Test.YtgelchbbknckcaaG31
import Derived.Test.YtgelchbbknckcaaFlowC
namespace Go.Proofs.Ytgelchbbknckcaa
open Go.RowKit Go.Sort

/-- Specifications. -/
def spNil (base : Nat) : Spec := ⟨fun v W => ∃ B, v = .slice (some ⟨B, 0, none⟩) 0 0 ∧ Blk W B 3 #[] ∧ base ≤ B, fun _ _ _ ⟨B, h1, h2, h3⟩ hb => ⟨B, h1, h2.below hb h2.lt, h3⟩⟩
def spAppI (base n : Nat) (xs : List Value) : Spec := ⟨fun v W => AppZ W base 3 1 v n xs ∧ Own W 3 v, fun _ _ _ ⟨h1, h2⟩ hb => ⟨h1.below hb (Nat.le_refl _), h2.below hb⟩⟩
def spOne (u : Value) : Spec := ⟨fun v W => ∃ B, v = .slice (some ⟨B, 0, none⟩) 1 1 ∧ Rd W 1 (some ⟨B, 0, none⟩) 1 [u], fun _ _ _ ⟨B, h1, h2⟩ hb => ⟨B, h1, h2.below hb⟩⟩
def spInts (n : Nat) (xs : List Value) : Spec := ⟨fun v W => ∃ A c, v = .slice A n c ∧ TRd W 3 1 A n xs ∧ n ≤ c, fun _ _ _ ⟨A, c, h1, h2, h3⟩ hb => ⟨A, c, h1, h2.below hb, h3⟩⟩
def spRw (y : Gr.Wy) : Spec := ⟨fun v W => ∃ nx : Wm, v = .agg (rwV nx).toArray ∧ Wt W nx ∧ nx.w = y ∧ nx.f = true ∧ nx.kn = false, fun _ _ _ ⟨nx, h1, h2, h3⟩ hb => ⟨nx, h1, h2.below hb, h3⟩⟩
section
variable {P : Program} {Q : Exit → Act → World → Prop} {o : Oper} {a : Act} {W : World}
theorem val_appe {R : Value → World → Prop} (hg : o.guard = none) (s x : Operand) (t : TypeId) (hop : o.op = Op.call { callee := Callee.builtin Builtin.append, args := #[s, x], argTypes := #[t, t] })
    (e : TypeId) (i : TypeInfo) (z : Value) (sz bytes : Nat) (ht : P.underlying t = some (.slice e)) (hi : P.info? e = some i) (hz : i.zero = some z) (hs : i.size = sz) (hby : i.bytes = bytes) (hzs : z.cells.size = sz) (hsz : 0 < sz)
    (base B : Nat) (hb : base ≤ B) (hB : Blk W B e #[]) (hv : a.eval s = .slice (some ⟨B, 0, none⟩) 0 0) (A : Option Addr) (m c : Nat) (news : List Value) (hx : a.eval x = .slice A m c) (hrd : Rd W sz A m news)
    (h63 : m ≤ maxLen) (hbytes : m * bytes ≤ 140737488355328)
    (hR : ∀ v' w', AppZ w' base e sz v' m news → (∀ k, v'.ownBlock = some k → ∃ cur, Blk w' k e cur) → R v' w') : Val P Q o a W (fun v W' => Below W.heap.size W W' ∧ R v W') := fun K hK => by
  have h := step_appe (ops := #[]) (E := True) (K := K) (Q := Q) hg s x t hop e i z sz bytes ht hi hz hs hby hzs hsz base B hb hB hv A m c news hx hrd h63 hbytes (fun v' w' h1 h2 h3 => hK v' w' ⟨h2, hR v' w' h1 h3⟩)
  rwa [if_pos (by simp [Region.wanted, hg])] at h
theorem val_appz {R : Value → World → Prop} (hg : o.guard = none) (s x : Operand) (t : TypeId) (hop : o.op = Op.call { callee := Callee.builtin Builtin.append, args := #[s, x], argTypes := #[t, t] })
    (e : TypeId) (i : TypeInfo) (z : Value) (sz bytes : Nat) (ht : P.underlying t = some (.slice e)) (hi : P.info? e = some i) (hz : i.zero = some z) (hs : i.size = sz) (hby : i.bytes = bytes) (hzs : z.cells.size = sz) (hsz : 0 < sz)
    (base : Nat) (hbase : base ≤ W.heap.size) (v : Value) (n : Nat) (xs : List Value) (hv : a.eval s = v) (h : AppZ W base e sz v n xs) (A : Option Addr) (m c : Nat) (news : List Value) (hx : a.eval x = .slice A m c) (hrd : Rd W sz A m news) (h1 : ∀ u ∈ news, u.oneCell' = true)
    (h63 : n + m ≤ maxLen) (hbytes : (n + m) * bytes ≤ 140737488355328)
    (hR : ∀ v' w', AppZ w' base e sz v' (n + m) (xs ++ news) → W.grownBy w' v.ownBlock → R v' w') : Val P Q o a W R := fun K hK => by
  have h := step_appz (ops := #[]) (E := True) (K := K) (Q := Q) hg s x t hop e i z sz bytes ht hi hz hs hby hzs hsz base hbase v n xs hv h A m c news hx hrd h1 h63 hbytes (fun v' w' h1 h2 => hK v' w' (hR v' w' h1 h2))
  rwa [if_pos (by simp [Region.wanted, hg])] at h
theorem val_nil {R : Value → World → Prop} {t T : TypeId} (ho : o.op = .buildSlice t 0 #[]) (hr : ∀ w : World, (Instr.buildSlice t 0 #[]).run P w = .ok (.slice (some ⟨w.heap.size, 0, none⟩) 0 0) (w.alloc (.cells #[] T))) (h : R (.slice (some ⟨W.heap.size, 0, none⟩) 0 0) (W.alloc (.cells #[] T))) : Val P Q o a W (fun v W' => Below W.heap.size W W' ∧ R v W') := fun K hK => by
  unfold Oper.wp execOp
  simp only [ho, Sem.run_bind, List.map_toArray, List.map_nil, hr, Sem.run_pure, Result.andThen_ok]
  exact hK _ _ ⟨(Below.refl _ _).alloc (Nat.le_refl _) _, h⟩
end
theorem nil30 (w : World) : (Instr.buildSlice 30 0 #[]).run Try.prog w = .ok (.slice (some ⟨w.heap.size, 0, none⟩) 0 0) (w.alloc (.cells #[] 3)) := by kernel_rfl
set_option maxRecDepth 100000 in
set_option maxHeartbeats 4000000 in
theorem All_any (A : Option Addr) (n c : Nat) (B : Option Addr) (m d : Nat) (vs : List Int) (ls : List Ln) (fr : Int) (lim : Nd) (w : World) (hr : Rd w 1 A n (vs.map intV)) (hl : Rd w 8 B m (ls.flatMap lnV)) (hv : Vg vs ls) :
    Calls Try.prog 29 #[.agg (grV A n c B m d).toArray, .int .i64 fr, .agg (ndV lim).toArray] w fun e w' => (∃ (g : Nat) (outs : List Wm), e = .returned (.slice (some ⟨g, 0, none⟩) n n) ∧ w.heap.size ≤ g ∧ Blk w' g 74 (outs.flatMap rwV).toArray ∧ (∀ x ∈ outs, Wt w' x) ∧ BA vs ls lim fr n 0 outs) ∧ Below w.heap.size w w' := by
  obtain ⟨i74, hi74, hz74, hs74, hy74⟩ := info_parts info74
  obtain ⟨d74, hd74, hrow74⟩ := und74
  obtain ⟨i53, hi53, hz53, hs53, hy53⟩ := info_parts info53
  obtain ⟨d53, hd53, hrow53⟩ := und53
  obtain ⟨d33, hd33, hrow33⟩ := und33
  obtain ⟨d28, hd28, hrow28⟩ := und28
  obtain ⟨i3, hi3, hz3, hs3, hy3⟩ := info_parts info3
  have hvl := hr.len1
  have hnl := hr.le
  have hml := hl.le
  have hll := hl.lenf lnV_len (by omega)
  have hn16 : n ≤ 16 := by have := hv.n; omega
  have hm64 : m ≤ 64 := by have := hv.m; omega
  have Hr := Lib.hid hr
  have Hl := Lib.hid hl
  have Hv := Lib.hid hv
  have Hvl := Lib.hid hvl
  have Hll := Lib.hid hll
  clear hr hl hv hvl hll
  go_enter Try.func29, Try.ntmps29
  go_upto_region 1 with fail
  obtain ⟨w1, hw1⟩ : ∃ v, v = (w.alloc (.cells (grV A n c B m d).toArray 33)).alloc (.cells (ndV lim).toArray 28) := ⟨_, rfl⟩
  have hB : Below w.heap.size w w1 := by rw [hw1]; exact ((Below.refl _ _).alloc (Nat.le_refl _) _).alloc (by simp) _
  have hC : Blk w1 w.heap.size 33 (grV A n c B m d).toArray := by rw [hw1]; exact (Blk.new _ _ _).alloc _
  have hD : Blk w1 (w.heap.size + 1) 28 (ndV lim).toArray := by
    have := Blk.new (w.alloc (.cells (grV A n c B m d).toArray 33)) 28 (ndV lim).toArray
    rw [World.size_alloc] at this
    rw [hw1]; exact this
  rw [← hw1]
  clear hw1
  have HC := Lib.hid hC
  have HD := Lib.hid hD
  have HB := Lib.hid hB
  have hsz1 := hB.size
  have c0 : w1.cell? ⟨w.heap.size, 0, none⟩ = some (.slice A n c) := by rw [hC.cell]; rfl
  have hmk : ∀ w : World, (Instr.makeSlice 71 (.int .i64 (n : Int)) (.int .i64 (n : Int))).run Try.prog w = _ := fun w => mkRef w n hn16
  clear hC hD hB
  go_upto_region 2 with fail
  obtain ⟨ob, hob⟩ : ∃ v, v = w1.heap.size := ⟨_, rfl⟩
  obtain ⟨w2, hw2⟩ : ∃ v, v = w1.alloc (.cells ((List.replicate n wm0).flatMap rwV).toArray 74) := ⟨_, rfl⟩
  have hb2 : Below w1.heap.size w1 w2 := by rw [hw2]; exact (Below.refl _ _).alloc (Nat.le_refl _) _
  have hO2 : Blk w2 ob 74 ((List.replicate n wm0).flatMap rwV).toArray := by rw [hw2, hob]; exact Blk.new _ _ _
  rw [← hw2, ← hob]
  clear hw2 c0
  have HO2 := Lib.hid hO2
  have Hb2 := Lib.hid hb2
  have Hob := Lib.hid hob
  clear hO2 hb2 hob hmk
  have Hfd := Lib.hid (fun W (h : Below w1.heap.size w1 W) (x : Int) => Find_any A n c B m d vs x W (Hr.out.below (HB.out.trans (h.mono hsz1))))
  have Hgg := Lib.hid (fun W (h : Below w1.heap.size w1 W) => Blk.range (HC.out.below h HC.out.lt))
  go_upto_region 3 with (refine wpList_load_mid rfl 33 (.tmp 3) rfl w.heap.size 0 rfl (grV A n c B m d) d33 (Hgg.out _ Hb2.out) hd33 hrow33 (by rw [grV_len]; kernel_rfl) ?_)
  refine (Hfd.out _ Hb2.out fr).mono ?_
  rintro e w3 ⟨rfl, hb3⟩
  replace HO2 := Lib.hid (HO2.out.below hb3 HO2.out.lt)
  replace Hb2 := Lib.hid (Hb2.out.trans (hb3.mono Hb2.out.size))
  clear hb3
  go_upto_if 21 with fail
  go_cut [20, 21] from 22 to 27 (fun t20 t21 wx => ∃ outs : List Wm, Blk wx ob 74 (outs.flatMap rwV).toArray ∧ (∀ x ∈ outs, Wt wx x) ∧ BA vs ls lim fr 0 0 outs ∧ Below w1.heap.size w1 wx)
  case first =>
    by_cases hf : fr ∈ vs
    rotate_left
    · have q1 : decide ((0 : Int) ≤ idxI vs fr) = false := decide_eq_false (by have := (idxI_neg vs fr).2 hf; omega)
      have Hba := Lib.hid (BA.none (ls := ls) (lim := lim) hf)
      rw [Hvl.out] at Hba
      clear hf
      rw [q1]
      go_wp2_with fail
      go_meet
      exact ⟨List.replicate n wm0, HO2.out, fun x hx => by rw [List.eq_of_mem_replicate hx]; exact Wt.nil _, Hba.out, Hb2.out⟩
    obtain ⟨s, hs, hsl, hsv⟩ := idx_lt hf
    have hsn : s < n := by rw [Hvl.out] at hsl; exact hsl
    have Hba := Lib.hid (BA.start (ls := ls) (lim := lim) hsv)
    rw [Hvl.out] at Hba
    have q1 : decide ((0 : Int) ≤ (s : Int)) = true := decide_eq_true (by omega)
    have Hs := Lib.hid hs
    rw [hs]
    clear hf hs hsl hsv
    rw [q1]
    go_upto_region 4 with (refine wpList_load_mid rfl 33 (.tmp 3) rfl w.heap.size 0 rfl (grV A n c B m d) d33 (Hgg.out _ Hb2.out) hd33 hrow33 (by rw [grV_len]; kernel_rfl) ?_)
    refine (Hfd.out _ Hb2.out fr).mono ?_
    rintro e w4 ⟨rfl, hb4⟩
    replace HO2 := Lib.hid (HO2.out.below hb4 HO2.out.lt)
    replace Hb2 := Lib.hid (Hb2.out.trans (hb4.mono Hb2.out.size))
    rw [Hs.out]
    clear hb4 q1 Hs
    have hx0 : (List.replicate n wm0)[s]? = some wm0 := by rw [List.getElem?_replicate, if_pos hsn]
    have hsi : decide ((s : Int) < (n : Int)) = true := decide_eq_true (by omega)
    have Hone := Lib.hid (rw_one { wm0 with f := true })
    have hth : w4.there ob (s * 3) (rwV { wm0 with f := true }).toArray.size := fun q hq => by
      have hq3 : q < 3 := hq
      have hh := Blk.at3 HO2.out hx0
      obtain ⟨u, hu⟩ : ∃ u, (rwV wm0)[q]? = some u := ⟨_, List.getElem?_eq_getElem (by rw [rwV_len]; exact hq3)⟩
      exact ⟨by rw [hh q u hu]; rfl, HO2.out.frozen _⟩
    have Hth := Lib.hid hth
    have hkp := kept_setR w4 ob (s * 3) { wm0 with f := true }
    have Hend := Lib.hid (show Blk (w4.setCells ob (s * 3) (rwV { wm0 with f := true })) ob 74 ((outs0 n s).flatMap rwV).toArray ∧ (∀ x ∈ outs0 n s, Wt (w4.setCells ob (s * 3) (rwV { wm0 with f := true })) x) ∧ BA vs ls lim fr 0 0 (outs0 n s) ∧ Below w1.heap.size w1 (w4.setCells ob (s * 3) (rwV { wm0 with f := true })) from
      ⟨Blk.setR HO2.out hx0 rfl, outs0_wt n s _, Hba.out, below_setR Hb2.out (by rw [Hob.out]; exact Nat.le_refl _) _ _⟩)
    clear hth hkp hx0
    -- MARK1
    go_wp2_with (first | (refine wpList_buildN rfl 74 _ rfl [(2, .bool true)] rfl _ built74z ?_) | (refine wpList_store_mid rfl 74 (.tmp 27) (.tmp 26) rfl ob (s * 3) (rwV { wm0 with f := true }).toArray rfl rfl Hth.out (size74 _ rfl) Hone.out ?_))
    go_meet
    exact ⟨outs0 n s, Hend.out⟩
  case' rest => skip
  obtain ⟨outs1, hO, hwt, hba, hb3⟩ := hcut
  obtain ⟨w3, h_⟩ : ∃ v, v = wc := ⟨_, rfl⟩
  subst h_
  have HO3 := Lib.hid hO
  have Hwt3 := Lib.hid hwt
  have Hba3 := Lib.hid hba
  have Hb3 := Lib.hid hb3
  clear hO hwt hba hb3 HO2 Hb2
  go_wp2_with fail
  go_loopw [8] (fun v8 wr => ∃ (r : Nat) (outs : List Wm), v8 = .int .i64 (r : Int) ∧ r ≤ n ∧ Blk wr ob 74 (outs.flatMap rwV).toArray ∧ (∀ x ∈ outs, Wt wr x) ∧ BA vs ls lim fr r 0 outs ∧ Below w1.heap.size w1 wr) (fun v8 _ => n - (intOf v8).toNat)
  case atStart => exact ⟨0, outs1, rfl, by omega, HO3.out, Hwt3.out, Hba3.out, Hb3.out⟩
  case round =>
    obtain ⟨r, outs, rfl, hrn, hO, hwt, hba, hBr⟩ := hrel
    have HO := Lib.hid hO
    have Hwt := Lib.hid hwt
    have Hba := Lib.hid hba
    have HBr := Lib.hid hBr
    have hszr := hBr.size
    have g0 : wr.cell? ⟨w.heap.size, 0, none⟩ = some (.slice A n c) := by rw [(HC.out.below hBr HC.out.lt).cell]; rfl
    clear hO hwt hba hBr HO3 Hwt3 Hba3 Hb3
    by_cases hlt : r < n
    rotate_left
    · have hr : r = n := by omega
      rw [hr] at Hba
      have HBx := Lib.hid (HB.out.trans (HBr.out.mono hsz1))
      have d0 : decide ((r : Int) < (n : Int)) = false := decide_eq_false (by omega)
      have d1 : decide (r < n) = false := decide_eq_false hlt
      clear hr hlt
      go_wp2_with fail
      go_ret
      exact ⟨⟨ob, outs, rfl, by rw [Hob.out]; exact hsz1, HO.out, Hwt.out, Hba.out⟩, HBx.out⟩
    have d0 : decide ((r : Int) < (n : Int)) = true := decide_eq_true (by omega)
    obtain ⟨wo, hwo⟩ : ∃ wo, wo = wr := ⟨_, rfl⟩
    subst hwo
    go_wp2_with fail
    clear d0 g0
    go_loopw [9] (fun v9 wr => ∃ (j : Nat) (os : List Wm), v9 = .int .i64 (j : Int) ∧ j ≤ m ∧ Blk wr ob 74 (os.flatMap rwV).toArray ∧ (∀ x ∈ os, Wt wr x) ∧ BA vs ls lim fr r j os ∧ Below w1.heap.size w1 wr) (fun v9 _ => m - (intOf v9).toNat)
    case atStart => exact ⟨0, outs, rfl, by omega, HO.out, Hwt.out, Hba.out, HBr.out⟩
    case round =>
      clear HO Hwt Hba HBr outs
      obtain ⟨j, os, rfl, hjm, hO, hwt, hba, hBr⟩ := hrel
      have HO := Lib.hid hO
      have Hwt := Lib.hid hwt
      have Hba := Lib.hid hba
      have HBr := Lib.hid hBr
      have hszr := hBr.size
      have g1 : wr.cell? ⟨w.heap.size, 1, none⟩ = some (.slice B m d) := by rw [(HC.out.below hBr HC.out.lt).cell]; rfl
      clear hO hwt hba hBr
      by_cases hlj : j < m
      rotate_left
      · have hj : j = ls.length := by rw [Hll.out]; omega
        rw [hj] at Hba
        have d0 : decide ((j : Int) < (m : Int)) = false := decide_eq_false (by omega)
        have d1 : decide (j < m) = false := decide_eq_false hlj
        clear hj hlj
        go_wp2_with fail
        exact ⟨⟨r + 1, os, by go_num, by omega, HO.out, Hwt.out, Hba.out.next, HBr.out⟩, by simp [intOf]; omega⟩
      have d0 : decide ((j : Int) < (m : Int)) = true := decide_eq_true (by omega)
      obtain ⟨b, off, l, eb, hl, hcl⟩ := ((Hl.out.below HB.out).below HBr.out).flat_ lnV_len (by omega) hlj
      subst eb
      have hgl : wr.rangeAt b (off + j * 8) (lnV l) := fun j v hv => by
        have := hcl j v hv
        rwa [← Nat.add_assoc] at this
      have Hgl := Lib.hid hgl
      have Hlj := Lib.hid hl
      have hn_ : Blk (wr.alloc (.cells (lnV ln0).toArray 53)) wr.heap.size 53 (lnV ln0).toArray := Blk.new _ _ _
      have Hn_ := Lib.hid hn_
      clear hgl hl hcl hn_
      go_upto_region 11 with (first | (refine wpList_load_mid rfl 53 (.tmp 45) rfl b (off + j * 8) rfl (lnV l) d53 Hgl.out hd53 hrow53 (by rw [lnV_len]; kernel_rfl) ?_) | (refine wpList_alloc0 rfl 53 rfl (lnV ln0).toArray _ i53 hi53 hz53 rfl ?_; simp only [Act.put, List.setIfInBounds_toArray, List.set_cons_succ, List.set_cons_zero]) | (refine wpList_store_row rfl 53 (.tmp 10) (.tmp 46) rfl wr.heap.size (lnV l).toArray rfl rfl 53 (lnV ln0).toArray Hn_.out (size53 _ rfl) rfl (ln_one _) ?_))
      obtain ⟨w3, hw3⟩ : ∃ v, v = (wr.alloc (.cells (lnV ln0).toArray 53)).setRow wr.heap.size (lnV l).toArray := ⟨_, rfl⟩
      have hb3 : Below wr.heap.size wr w3 := by rw [hw3]; exact Below.setRow ((Below.refl _ _).alloc (Nat.le_refl _) _) (Nat.le_refl _) _
      have hL3 : Blk w3 wr.heap.size 53 (lnV l).toArray := by rw [hw3]; exact setRow_heap _ _ _ _ _ _ Hn_.out
      rw [← hw3]
      clear hw3 Hn_ Hgl d0 g1
      obtain ⟨lb, hlb⟩ : ∃ v, v = wr.heap.size := ⟨_, rfl⟩
      rw [← hlb] at hL3 ⊢
      clear hlb
      have HL3 := Lib.hid hL3
      replace HO := Lib.hid (HO.out.below hb3 HO.out.lt)
      replace Hwt := Lib.hid (fun x hx => (Hwt.out x hx).below hb3)
      replace HBr := Lib.hid (HBr.out.trans (hb3.mono hszr))
      have hsz3 := HBr.out.size
      clear hL3 hb3
      have HC3 := Lib.hid (HC.out.below HBr.out HC.out.lt)
      have HD3 := Lib.hid (HD.out.below HBr.out HD.out.lt)
      have HR3 := Lib.hid ((Hr.out.below HB.out).below HBr.out)
      have e0 : w3.cell? ⟨lb, 0, none⟩ = some (.int .i64 l.f) := by rw [HL3.out.cell]; rfl
      have e1 : w3.cell? ⟨lb, 1, none⟩ = some (.int .i64 l.t) := by rw [HL3.out.cell]; rfl
      obtain ⟨hfu, htu, hft, hc0⟩ := Hv.out.ln j l Hlj.out
      obtain ⟨u, hu, hul, huv⟩ := idx_lt hfu
      obtain ⟨t, ht, htl, htv⟩ := idx_lt htu
      have hun : u < n := by rw [Hvl.out] at hul; exact hul
      have htn : t < n := by rw [Hvl.out] at htl; exact htl
      obtain ⟨x, hx⟩ : ∃ x, os[u]? = some x := ⟨_, List.getElem?_eq_getElem (by rw [Hba.out.len]; exact hul)⟩
      obtain ⟨y, hy⟩ : ∃ y, os[t]? = some y := ⟨_, List.getElem?_eq_getElem (by rw [Hba.out.len]; exact htl)⟩
      have Hu := Lib.hid hu
      have Ht := Lib.hid ht
      have Huv := Lib.hid huv
      have Htv := Lib.hid htv
      have Hx := Lib.hid hx
      have Hy := Lib.hid hy
      have Hft := Lib.hid hft
      clear hfu htu hft hu ht hul htl huv htv hx hy
      simp only [Act.put]
      go_cut [11, 12] from 47 to 57 (fun t11 t12 wx => ∃ B11 : Nat, t11 = .pointer (some ⟨B11, 0, none⟩) ∧ t12 = .int .i64 (t : Int) ∧ w3.heap.size ≤ B11 ∧ Blk wx B11 74 (rwV x).toArray ∧ Below w3.heap.size w3 wx)
      case first =>
        refine wp_region_flow_tail 12 [47, 48, 49, 50, 51, 52, 53, 54, 55, 56, 57, 11] [(Spec.is (.slice (some ⟨ob, 0, none⟩) n n), false), (Spec.is (.agg (grV A n c (some ⟨b, off, none⟩) m d).toArray), false), (Spec.is (.pointer (some ⟨lb, 0, none⟩)), false), (Spec.is (.int .i64 l.f), false), (Spec.is (.int .i64 (u : Int)), false), (Spec.is (.pointer (some ⟨ob, u * 3, none⟩)), false), (Spec.is (.agg (rwV x).toArray), false), (Spec.is (.agg (grV A n c (some ⟨b, off, none⟩) m d).toArray), false), (Spec.is (.pointer (some ⟨lb, 1, none⟩)), false), (Spec.is (.int .i64 l.t), false), (Spec.is (.int .i64 (t : Int)), false), (spVar 74 (rwV wm0).toArray, true)] 92 (by kernel_rfl) (List.take_append_drop _ _) rfl (by kernel_rfl) (by kernel_rfl) (by kernel_rfl) (by decide) (by kernel_rfl) (by kernel_rfl) (fun _ _ d _ _ h => by cases d <;> exact h) rfl (by decide) rfl (by decide) (by kernel_rfl) ?_ ?_
        · refine ⟨?_, ?_, ?_, ?_, ?_, ?_, ?_, ?_, ?_, ?_, ?_, ?_, trivial⟩
          · intro a W hE hb hs
            have h7 : a.eval (.tmp 7) = .slice (some ⟨ob, 0, none⟩) n n := hb 7 (by decide)
            refine flow0 rfl ?_
            exact val_move _ rfl _ h7 ⟨rfl, trivial⟩
          · intro a W hE hb hs
            have h3 : a.eval (.tmp 3) = .pointer (some ⟨w.heap.size, 0, none⟩) := hb 3 (by decide)
            refine flow0 rfl ?_
            exact val_load_row 33 _ rfl w.heap.size 0 h3 (grV A n c (some ⟨b, off, none⟩) m d) d33 (Blk.range (HC3.out.below (ext_below hE) HC3.out.lt)) hd33 hrow33 (by rw [grV_len]; kernel_rfl) ⟨rfl, trivial⟩
          · intro a W hE hb hs
            have h10 : a.eval (.tmp 10) = .pointer (some ⟨lb, 0, none⟩) := hb 10 (by decide)
            refine flow0 rfl ?_
            intro K hK
            unfold Oper.wp execOp
            simp only [h10]
            simp [go_sem]
            exact hK _ _ ⟨Below.refl _ _, rfl, trivial⟩
          · intro a W hE hb hs
            have h49 : a.eval (.tmp 49) = .pointer (some ⟨lb, 0, none⟩) := hs 2 (by decide)
            refine flow0 rfl ?_
            have c0 : W.cell? ⟨lb, 0, none⟩ = some (.int .i64 l.f) := ((ext_below hE).cell (World.block_lt_of_cell? _ _ e0)).trans e0
            intro K hK
            unfold Oper.wp execOp
            simp only [h49]
            simp [go_sem, c0]
            exact hK _ _ ⟨Below.refl _ _, rfl, trivial⟩
          · intro a W hE hb hs
            have h48 : a.eval (.tmp 48) = .agg (grV A n c (some ⟨b, off, none⟩) m d).toArray := hs 1 (by decide)
            have h50 : a.eval (.tmp 50) = .int .i64 l.f := hs 3 (by decide)
            refine flow0 rfl ?_
            exact val_call 25 _ _ rfl (by kernel_rfl) [.agg (grV A n c (some ⟨b, off, none⟩) m d).toArray, .int .i64 l.f] (by show [a.eval (.tmp 48), a.eval (.tmp 50)] = _; rw [h48, h50]) ((Find_any A n c (some ⟨b, off, none⟩) m d vs l.f W (HR3.out.below (ext_below hE))).mono (by rintro e W' ⟨rfl, hb⟩; exact ⟨_, rfl, hb, (show Value.int .i64 (idxI vs l.f) = Value.int .i64 (u : Int) from by rw [Hu.out]), trivial⟩))
          · intro a W hE hb hs
            have h47 : a.eval (.tmp 47) = .slice (some ⟨ob, 0, none⟩) n n := hs 0 (by decide)
            have h51 : a.eval (.tmp 51) = .int .i64 (u : Int) := hs 4 (by decide)
            refine flow0 rfl ?_
            intro K hK
            unfold Oper.wp execOp
            simp only [h47, h51]
            simp [go_sem, hun]
            exact hK _ _ ⟨Below.refl _ _, rfl, trivial⟩
          · intro a W hE hb hs
            have h52 : a.eval (.tmp 52) = .pointer (some ⟨ob, u * 3, none⟩) := hs 5 (by decide)
            refine flow0 rfl ?_
            exact val_load_row 74 _ rfl ob (u * 3) h52 (rwV x) d74 (Blk.at3 (HO.out.below (ext_below hE) HO.out.lt) Hx.out) hd74 hrow74 (by rw [rwV_len]; kernel_rfl) ⟨rfl, trivial⟩
          · intro a W hE hb hs
            have h3 : a.eval (.tmp 3) = .pointer (some ⟨w.heap.size, 0, none⟩) := hb 3 (by decide)
            refine flow0 rfl ?_
            exact val_load_row 33 _ rfl w.heap.size 0 h3 (grV A n c (some ⟨b, off, none⟩) m d) d33 (Blk.range (HC3.out.below (ext_below hE) HC3.out.lt)) hd33 hrow33 (by rw [grV_len]; kernel_rfl) ⟨rfl, trivial⟩
          · intro a W hE hb hs
            have h10 : a.eval (.tmp 10) = .pointer (some ⟨lb, 0, none⟩) := hb 10 (by decide)
            refine flow0 rfl ?_
            intro K hK
            unfold Oper.wp execOp
            simp only [h10]
            simp [go_sem]
            exact hK _ _ ⟨Below.refl _ _, rfl, trivial⟩
          · intro a W hE hb hs
            have h55 : a.eval (.tmp 55) = .pointer (some ⟨lb, 1, none⟩) := hs 8 (by decide)
            refine flow0 rfl ?_
            have c0 : W.cell? ⟨lb, 1, none⟩ = some (.int .i64 l.t) := ((ext_below hE).cell (World.block_lt_of_cell? _ _ e1)).trans e1
            intro K hK
            unfold Oper.wp execOp
            simp only [h55]
            simp [go_sem, c0]
            exact hK _ _ ⟨Below.refl _ _, rfl, trivial⟩
          · intro a W hE hb hs
            have h54 : a.eval (.tmp 54) = .agg (grV A n c (some ⟨b, off, none⟩) m d).toArray := hs 7 (by decide)
            have h56 : a.eval (.tmp 56) = .int .i64 l.t := hs 9 (by decide)
            refine flow0 rfl ?_
            exact val_call 25 _ _ rfl (by kernel_rfl) [.agg (grV A n c (some ⟨b, off, none⟩) m d).toArray, .int .i64 l.t] (by show [a.eval (.tmp 54), a.eval (.tmp 56)] = _; rw [h54, h56]) ((Find_any A n c (some ⟨b, off, none⟩) m d vs l.t W (HR3.out.below (ext_below hE))).mono (by rintro e W' ⟨rfl, hb⟩; exact ⟨_, rfl, hb, (show Value.int .i64 (idxI vs l.t) = Value.int .i64 (t : Int) from by rw [Ht.out]), trivial⟩))
          · intro a W hE hb hs
            refine flow0 rfl ?_
            exact val_alloc _ rfl (rwV wm0).toArray _ i74 hi74 hz74 rfl ⟨⟨_, rfl, Blk.new _ _ _⟩, _, rfl, Nat.le_refl _, by rw [World.size_alloc]; omega⟩
        · intro f W hbW hT hp hd
          have e53 : f 53 = .agg (rwV x).toArray := hT 6 (by decide)
          have e57 : f 57 = .int .i64 (t : Int) := hT 10 (by decide)
          obtain ⟨B11, eB11, hB11⟩ : ∃ B, f 11 = .pointer (some ⟨B, 0, none⟩) ∧ Blk W B 74 (rwV wm0).toArray := hT 11 (by decide)
          have lB11 : w3.heap.size ≤ B11 := by
            obtain ⟨b', h1, h2, _⟩ := hp 11 (by decide) rfl
            have h1' : f 11 = .pointer (some ⟨b', 0, none⟩) := h1
            rw [eB11] at h1'
            injection h1' with h; injection h with h; injection h with h
            omega
          have hbZ := hbW
          have HK0 := (KeptIn.refl (fun k => k ≠ B11) (W)).setRow (g := B11) (fun h => h rfl) (rwV x).toArray
          have sB11 := hB11
          replace hB11 : Blk ((W).setRow B11 (rwV x).toArray) B11 74 (rwV x).toArray := setRow_heap _ _ _ _ _ _ sB11
          replace hbZ := Below.setRow hbZ lB11 (rwV x).toArray
          simp only [List.drop_succ_cons, List.drop_zero]
          simp only [putV, List.foldl_cons, List.foldl_nil, Act.put, List.setIfInBounds_toArray, List.set_cons_succ, List.set_cons_zero]
          rw [eB11, e53, e57]
          refine wpList_store_row rfl 74 (.tmp 11) (.tmp 53) rfl B11 (rwV x).toArray rfl rfl 74 (rwV wm0).toArray sB11 (size74 _ rfl) rfl (rw_one _) ?_
          have HX := Lib.hid (And.intro lB11 (And.intro hB11 hbZ))
          clear hT hp hd HK0 sB11 hB11 hbZ hbW lB11
          go_wp2_with fail
          go_meet
          exact ⟨B11, rfl, rfl, HX.out⟩
      case' rest => skip
      obtain ⟨B11, rfl, rfl, hB11, h11, hb4⟩ := hcut
      obtain ⟨w4, h_⟩ : ∃ v, v = wc := ⟨_, rfl⟩
      subst h_
      replace HO := Lib.hid (HO.out.below hb4 HO.out.lt)
      replace Hwt := Lib.hid (fun x hx => (Hwt.out x hx).below hb4)
      replace HBr := Lib.hid (HBr.out.trans (hb4.mono hsz3))
      have HL4 := Lib.hid (HL3.out.below hb4 HL3.out.lt)
      have HD4 := Lib.hid (HD3.out.below hb4 HD3.out.lt)
      have H11 := Lib.hid h11
      have hsz4 := HBr.out.size
      have HXt := Lib.hid (Hwt.out x (List.mem_of_getElem? Hx.out))
      have x2 : w4.cell? ⟨B11, 2, none⟩ = some (.bool x.f) := by rw [h11.cell]; rfl
      clear hb4 HL3 HC3 HD3 h11 e0 e1 hB11 HR3
      by_cases hxf : x.f = true
      rotate_left
      · have hxf' : x.f = false := by simpa using hxf
        have hsk := Hba.out.skip Hv.out Hlj.out Huv.out Hx.out (.inl hxf')
        have Hsk := Lib.hid hsk
        rw [hxf'] at x2
        clear hxf hxf' hsk
        go_wp2_with fail
        exact ⟨⟨j + 1, os, by go_num, by omega, HO.out, Hwt.out, Hsk.out, HBr.out⟩, by simp [intOf]; omega⟩
      rw [hxf] at x2
      have Hxf := Lib.hid hxf
      have hrn : w4.rangeAt lb 3 (ndV l.n) := fun j v hv => by
        rw [HL4.out.cell, List.getElem?_toArray]
        unfold lnV
        rw [List.getElem?_append_right (by simp)]
        simpa using hv
      have hrm : w4.rangeAt (w.heap.size + 1) 0 (ndV lim) := Blk.range HD4.out
      have Hrn := Lib.hid hrn
      have Hrm := Lib.hid hrm
      clear hxf hrn hrm
      go_upto_region 13 with (first | (refine wpList_load_mid_g (by first | rfl | simp [Region.wanted, yielded]) 28 (.tmp 62) rfl lb 3 rfl (ndV l.n) d28 Hrn.out hd28 hrow28 (by rw [ndV_len]; kernel_rfl) ?_) | (refine wpList_load_mid_g (by first | rfl | simp [Region.wanted, yielded]) 28 (.tmp 5) rfl (w.heap.size + 1) 0 rfl (ndV lim) d28 Hrm.out hd28 hrow28 (by rw [ndV_len]; kernel_rfl) ?_))
      refine (RFits_any l.n lim w4).mono ?_
      rintro e w5 ⟨rfl, hb5⟩
      replace HO := Lib.hid (HO.out.below hb5 HO.out.lt)
      replace Hwt := Lib.hid (fun x hx => (Hwt.out x hx).below hb5)
      replace HXt := Lib.hid (HXt.out.below hb5)
      replace HBr := Lib.hid (HBr.out.trans (hb5.mono hsz4))
      have HL5 := Lib.hid (HL4.out.below hb5 HL4.out.lt)
      replace H11 := Lib.hid (H11.out.below hb5 H11.out.lt)
      have hsz5 := HBr.out.size
      clear hb5 HL4 HD4 Hrn Hrm x2
      by_cases hfit : fitsB l.n lim = true
      rotate_left
      · have hfit' : fitsB l.n lim = false := by simpa using hfit
        have hsk := Hba.out.skip Hv.out Hlj.out Huv.out Hx.out (.inr hfit')
        have Hsk := Lib.hid hsk
        rw [hfit']
        clear hfit hfit' hsk
        go_wp2_with fail
        exact ⟨⟨j + 1, os, by go_num, by omega, HO.out, Hwt.out, Hsk.out, HBr.out⟩, by simp [intOf]; omega⟩
      have Hfit := Lib.hid hfit
      rw [hfit]
      clear hfit
      go_upto_region 13 with fail
      have hsh := Hba.out.short x (List.mem_of_getElem? Hx.out)
      have hrm : r * ls.length ≤ 16 * 64 := Nat.mul_le_mul (by omega) (by rw [Hll.out]; exact hm64)
      have hxn : x.n = x.w.2.length := by have := HXt.out.rd.len1; simpa [castL] using this.symm
      have hxb : x.w.2.length ≤ 2000 := by omega
      have hxc : x.w.1 ≤ 2000000000 := by omega
      have hsum : IntKind.i64.wrap ((x.w.1 : Int) + l.c) = (x.w.1 : Int) + l.c := (IntWalk.i64_left _).trans (show wrap64 ((x.w.1 : Int) + l.c) = (x.w.1 : Int) + l.c by unfold wrap64; omega)
      have Hsum := Lib.hid hsum
      have y0 : w5.cell? ⟨B11, 0, none⟩ = some (.slice x.A x.n x.c) := by rw [H11.out.cell]; rfl
      have y1 : w5.cell? ⟨B11, 1, none⟩ = some (.int .i64 (x.w.1 : Int)) := by rw [H11.out.cell]; rfl
      have y2 : w5.cell? ⟨lb, 2, none⟩ = some (.int .i64 l.c) := by rw [HL5.out.cell]; rfl
      obtain ⟨XS, hXS⟩ : ∃ v, v = (castL x.w.2).map intV := ⟨_, rfl⟩
      have HXS := Lib.hid hXS
      obtain ⟨y', hy'⟩ : ∃ v : Gr.Wy, v = (x.w.1 + l.c.toNat, x.w.2 ++ [j]) := ⟨_, rfl⟩
      have Hy' := Lib.hid hy'
      have HXr := Lib.hid (show Rd w5 1 x.A x.n XS by rw [hXS]; exact HXt.out.rd)
      clear hsh hrm hsum hXS hy'
      go_cut [13] from 68 to 80 (fun t13 wx => ∃ (B13 : Nat) (nx : Wm), t13 = .pointer (some ⟨B13, 0, none⟩) ∧ w5.heap.size ≤ B13 ∧ Blk wx B13 74 (rwV nx).toArray ∧ Wt wx nx ∧ nx.w = y' ∧ nx.f = true ∧ nx.kn = false ∧ Below w5.heap.size w5 wx)
      case first =>
        refine wp_region_flowC_tail 14 [68, 69, 70, 71, 72, 73, 74, 75, 76, 77, 78, 79, 80, 13] [(spNil w5.heap.size, false), (Spec.is (.pointer (some ⟨B11, 0, none⟩)), false), (Spec.is (.slice x.A x.n x.c), false), (spAppI w5.heap.size x.n XS, false), (Spec.is (.int .i64 (j : Int)), false), (spOne (intV j), false), (spInts (x.n + 1) (XS ++ [intV j]), false), (Spec.is (.pointer (some ⟨B11, 1, none⟩)), false), (Spec.is (.int .i64 (x.w.1 : Int)), false), (Spec.is (.pointer (some ⟨lb, 2, none⟩)), false), (Spec.is (.int .i64 l.c), false), (Spec.is (.int .i64 ((x.w.1 : Int) + l.c)), false), (spRw y', false), (spVar 74 (rwV wm0).toArray, true)] [(0, 6), (3, 6), (5, 6)] 92 (by kernel_rfl) (List.take_append_drop _ _) rfl (by kernel_rfl) (by kernel_rfl) (by kernel_rfl) (by decide) (by kernel_rfl) (by kernel_rfl) (fun _ _ d _ _ h => by cases d <;> exact h) rfl (by decide) rfl (by decide) (by kernel_rfl) (by kernel_rfl) ?_ ?_
        · refine ⟨?_, ?_, ?_, ?_, ?_, ?_, ?_, ?_, ?_, ?_, ?_, ?_, ?_, ?_, trivial⟩
          · refine FlowStepF.toC ?_
            intro a W hE hb hs
            refine flow0 rfl ?_
            exact val_nil rfl nil30 ⟨⟨_, rfl, Blk.new _ _ _, (ext_below hE).size⟩, trivial⟩
          · refine FlowStepF.toC ?_
            intro a W hE hb hs
            have h11 : a.eval (.tmp 11) = .pointer (some ⟨B11, 0, none⟩) := hb 11 (by decide)
            refine flow0 rfl ?_
            intro K hK
            unfold Oper.wp execOp
            simp only [h11]
            simp [go_sem]
            exact hK _ _ ⟨Below.refl _ _, rfl, trivial⟩
          · refine FlowStepF.toC ?_
            intro a W hE hb hs
            have h69 : a.eval (.tmp 69) = .pointer (some ⟨B11, 0, none⟩) := hs 1 (by decide)
            refine flow0 rfl ?_
            have c0 : W.cell? ⟨B11, 0, none⟩ = some (.slice x.A x.n x.c) := ((ext_below hE).cell (World.block_lt_of_cell? _ _ y0)).trans y0
            intro K hK
            unfold Oper.wp execOp
            simp only [h69]
            simp [go_sem, c0]
            exact hK _ _ ⟨Below.refl _ _, rfl, trivial⟩
          · refine FlowStepF.toC ?_
            intro a W hE hb hs
            have h68 : ∃ B, (a.eval (.tmp 68)) = .slice (some ⟨B, 0, none⟩) 0 0 ∧ Blk W B 3 #[] ∧ w5.heap.size ≤ B := hs 0 (by decide)
            have h70 : a.eval (.tmp 70) = .slice x.A x.n x.c := hs 2 (by decide)
            refine flow0 rfl ?_
            obtain ⟨B, hv, hB, hb⟩ := h68
            exact val_appe rfl (.tmp 68) (.tmp 70) 30 rfl 3 i3 (.int .i64 0) 1 8 Try.underlying30 hi3 hz3 hs3 hy3 rfl (by omega) _ B hb hB hv x.A x.n x.c XS h70 (HXr.out.below (ext_below hE)) (by unfold maxLen; omega) (by omega) (fun v' w' h1 h2 => ⟨⟨h1, h2⟩, trivial⟩)
          · refine FlowStepF.toC ?_
            intro a W hE hb hs
            have h9 : a.eval (.tmp 9) = .int .i64 (j : Int) := hb 9 (by decide)
            refine flow0 rfl ?_
            exact val_move _ rfl _ h9 ⟨rfl, trivial⟩
          · refine FlowStepF.toC ?_
            intro a W hE hb hs
            have h72 : a.eval (.tmp 72) = .int .i64 (j : Int) := hs 4 (by decide)
            refine flow0 rfl ?_
            exact val_buildSlice 30 3 1 _ rfl [(0, .int .i64 (j : Int))] (by show [(0, a.eval (.tmp 72))] = _; rw [h72]) #[.int .i64 (j : Int)] i3 (.int .i64 0) 1 Try.underlying30 hi3 hz3 hs3 (by omega) (by omega) (by kernel_rfl) ⟨⟨_, rfl, lit_rdE _ _ _⟩, trivial⟩
          · intro a W hE hb hs
            have h71 : AppZ W w5.heap.size 3 1 (a.eval (.tmp 71)) x.n XS ∧ Own W 3 (a.eval (.tmp 71)) := hs 3 (by decide)
            have h73 : ∃ B, (a.eval (.tmp 73)) = .slice (some ⟨B, 0, none⟩) 1 1 ∧ Rd W 1 (some ⟨B, 0, none⟩) 1 [intV j] := hs 5 (by decide)
            refine flow0 rfl ?_
            obtain ⟨B, hv, hB⟩ := h73
            refine val_appz rfl (.tmp 71) (.tmp 73) 30 rfl 3 i3 (.int .i64 0) 1 8 Try.underlying30 hi3 hz3 hs3 hy3 rfl (by omega) w5.heap.size (ext_below hE).size _ x.n XS rfl h71.1 _ 1 1 [intV j] hv hB (by simp [intV, Value.oneCell']) (by unfold maxLen; omega) (by omega) (fun v' w' h1 h2 => ⟨.inr ⟨ext_of ((ext_below hE).grown h2 (ext_below hE).size (fun g e => (h71.1.lt g e).1)), h2.size, fun q hq hne hcb hnd hT => ?_⟩, ?_, trivial⟩)
            · have hq14 : q < 14 := hq
              rcases (by omega : q = 0 ∨ q = 1 ∨ q = 2 ∨ q = 3 ∨ q = 4 ∨ q = 5 ∨ q = 6 ∨ q = 7 ∨ q = 8 ∨ q = 9 ∨ q = 10 ∨ q = 11 ∨ q = 12 ∨ q = 13) with rfl | rfl | rfl | rfl | rfl | rfl | rfl | rfl | rfl | rfl | rfl | rfl | rfl | rfl
              · exact absurd (by decide) hcb
              · exact hT
              · exact hT
              · exact absurd (by decide) hcb
              · exact hT
              · exact absurd (by decide) hcb
              · exact absurd rfl hne
              · exact hT
              · exact hT
              · exact hT
              · exact hT
              · exact hT
              · exact absurd (by decide) (hnd _ rfl)
              · obtain ⟨B, g1, g2⟩ := (show ∃ B, a.eval (.tmp 13) = .pointer (some ⟨B, 0, none⟩) ∧ Blk W B 74 (rwV wm0).toArray from hT)
                exact ⟨B, g1, g2.kept h2 (fun e => by obtain ⟨cur, hc⟩ := h71.2 B e.symm; exact (g2.ne hc (by decide)) rfl)⟩
            · obtain ⟨A', c', rfl, hc, _⟩ := h1.rd
              exact ⟨A', c', rfl, h1.trd, hc⟩
          · refine FlowStepF.toC ?_
            intro a W hE hb hs
            have h11 : a.eval (.tmp 11) = .pointer (some ⟨B11, 0, none⟩) := hb 11 (by decide)
            refine flow0 rfl ?_
            intro K hK
            unfold Oper.wp execOp
            simp only [h11]
            simp [go_sem]
            exact hK _ _ ⟨Below.refl _ _, rfl, trivial⟩
          · refine FlowStepF.toC ?_
            intro a W hE hb hs
            have h75 : a.eval (.tmp 75) = .pointer (some ⟨B11, 1, none⟩) := hs 7 (by decide)
            refine flow0 rfl ?_
            have c0 : W.cell? ⟨B11, 1, none⟩ = some (.int .i64 (x.w.1 : Int)) := ((ext_below hE).cell (World.block_lt_of_cell? _ _ y1)).trans y1
            intro K hK
            unfold Oper.wp execOp
            simp only [h75]
            simp [go_sem, c0]
            exact hK _ _ ⟨Below.refl _ _, rfl, trivial⟩
          · refine FlowStepF.toC ?_
            intro a W hE hb hs
            have h10 : a.eval (.tmp 10) = .pointer (some ⟨lb, 0, none⟩) := hb 10 (by decide)
            refine flow0 rfl ?_
            intro K hK
            unfold Oper.wp execOp
            simp only [h10]
            simp [go_sem]
            exact hK _ _ ⟨Below.refl _ _, rfl, trivial⟩
          · refine FlowStepF.toC ?_
            intro a W hE hb hs
            have h77 : a.eval (.tmp 77) = .pointer (some ⟨lb, 2, none⟩) := hs 9 (by decide)
            refine flow0 rfl ?_
            have c0 : W.cell? ⟨lb, 2, none⟩ = some (.int .i64 l.c) := ((ext_below hE).cell (World.block_lt_of_cell? _ _ y2)).trans y2
            intro K hK
            unfold Oper.wp execOp
            simp only [h77]
            simp [go_sem, c0]
            exact hK _ _ ⟨Below.refl _ _, rfl, trivial⟩
          · refine FlowStepF.toC ?_
            intro a W hE hb hs
            have h76 : a.eval (.tmp 76) = .int .i64 (x.w.1 : Int) := hs 8 (by decide)
            have h78 : a.eval (.tmp 78) = .int .i64 l.c := hs 10 (by decide)
            refine flow0 rfl ?_
            intro K hK
            unfold Oper.wp execOp
            simp only [h76, h78]
            simp [go_sem, Hsum.out]
            exact hK _ _ ⟨Below.refl _ _, rfl, trivial⟩
          · refine FlowStepF.toC ?_
            intro a W hE hb hs
            have h74 : ∃ A c, (a.eval (.tmp 74)) = .slice A (x.n + 1) c ∧ TRd W 3 1 A (x.n + 1) (XS ++ [intV j]) ∧ x.n + 1 ≤ c := hs 6 (by decide)
            have h79 : a.eval (.tmp 79) = .int .i64 ((x.w.1 : Int) + l.c) := hs 11 (by decide)
            refine flow0 rfl ?_
            obtain ⟨A', c', h1, h2, h3⟩ := h74
            refine val_build 74 _ rfl [(0, .slice A' (x.n + 1) c'), (1, .int .i64 ((x.w.1 : Int) + l.c)), (2, .bool true)] (by show [(0, a.eval (.tmp 74)), (1, a.eval (.tmp 79)), (2, .bool true)] = _; rw [h1, h79]) _ (built74 _ _ _ _) ⟨⟨⟨A', x.n + 1, c', y', true, false⟩, ?_, ⟨?_, h3⟩, rfl, rfl, rfl⟩, trivial⟩
            · show Value.agg #[.slice A' (x.n + 1) c', .int .i64 ((x.w.1 : Int) + l.c), .bool true] = .agg #[.slice A' (x.n + 1) c', .int .i64 (y'.1 : Int), .bool true]
              rw [show (x.w.1 : Int) + l.c = (y'.1 : Int) from by rw [Hy'.out]; show (x.w.1 : Int) + l.c = ((x.w.1 + l.c.toNat : Nat) : Int); omega]
            · show TRd W 3 1 A' (x.n + 1) ((castL y'.2).map intV)
              have e : (castL y'.2).map intV = XS ++ [intV j] := by rw [Hy'.out, HXS.out]; simp [castL]
              rw [e]; exact h2
          · refine FlowStepF.toC ?_
            intro a W hE hb hs
            refine flow0 rfl ?_
            exact val_alloc _ rfl (rwV wm0).toArray _ i74 hi74 hz74 rfl ⟨⟨_, rfl, Blk.new _ _ _⟩, _, rfl, Nat.le_refl _, by rw [World.size_alloc]; omega⟩
        · intro f W hbW hT hp hd
          obtain ⟨nx, e80, hwn, hnw, hnf, hnk⟩ : ∃ nx : Wm, f 80 = .agg (rwV nx).toArray ∧ Wt W nx ∧ nx.w = y' ∧ nx.f = true ∧ nx.kn = false := hT 12 (by decide) (fun k h => by simp at h)
          obtain ⟨B13, eB13, hB13⟩ : ∃ B, f 13 = .pointer (some ⟨B, 0, none⟩) ∧ Blk W B 74 (rwV wm0).toArray := hT 13 (by decide) (fun k h => by simp at h)
          have lB13 : w5.heap.size ≤ B13 := by
            obtain ⟨b', h1, h2, _⟩ := hp 13 (by decide) rfl
            have h1' : f 13 = .pointer (some ⟨b', 0, none⟩) := h1
            rw [eB13] at h1'
            injection h1' with h; injection h with h; injection h with h
            omega
          have HK := (KeptIn.refl (fun k => k ≠ B13) W).setRow (g := B13) (fun h => h rfl) (rwV nx).toArray
          have hwn2 := hwn.kept hB13 (by decide) HK
          have hB13' : Blk (W.setRow B13 (rwV nx).toArray) B13 74 (rwV nx).toArray := setRow_heap _ _ _ _ _ _ hB13
          have hbZ := Below.setRow hbW lB13 (rwV nx).toArray
          have HX := Lib.hid (And.intro lB13 (And.intro hB13' (And.intro hwn2 (And.intro hnw (And.intro hnf (And.intro hnk hbZ))))))
          simp only [List.drop_succ_cons, List.drop_zero]
          simp only [putV, List.foldl_cons, List.foldl_nil, Act.put, List.setIfInBounds_toArray, List.set_cons_succ, List.set_cons_zero]
          rw [eB13, e80]
          refine wpList_store_row rfl 74 (.tmp 13) (.tmp 80) rfl B13 (rwV nx).toArray rfl rfl 74 (rwV wm0).toArray hB13 (size74 _ rfl) rfl (rw_one _) ?_
          refine wpList_nil ?_
          clear hT hp hd HK hwn hwn2 hB13 hB13' hbZ hbW lB13 hnw hnf hnk
          go_wp2_with fail
          go_meet
          exact ⟨B13, nx, rfl, HX.out⟩
      case' rest => skip
      obtain ⟨B13, nx, rfl, hB13, hN, hNt, hnw, hnf, hnk, hb6⟩ := hcut
      obtain ⟨w6, h_⟩ : ∃ v, v = wc := ⟨_, rfl⟩
      subst h_
      have HN := Lib.hid hN
      have HNt := Lib.hid hNt
      have Hnw := Lib.hid hnw
      have Hnf := Lib.hid hnf
      have Hnk := Lib.hid hnk
      replace HO := Lib.hid (HO.out.below hb6 HO.out.lt)
      replace Hwt := Lib.hid (fun x hx => (Hwt.out x hx).below hb6)
      replace HBr := Lib.hid (HBr.out.trans (hb6.mono hsz5))
      have hsz6 := HBr.out.size
      clear hN hNt hnw hnf hnk hb6 hB13 HL5 H11 y0 y1 y2 HXr HXS HXt
      go_upto_region 14 with fail
      obtain ⟨C, hC⟩ : ∃ C, C = chB (some y') (wyO y) := ⟨_, rfl⟩
      have HC9 := Lib.hid hC
      clear hC
      go_cut [86] from 81 to 86 (fun t86 wx => t86 = .bool C ∧ Below w6.heap.size w6 wx)
      case first =>
        refine wp_region_flowF [81, 82, 83, 84, 85, 86] [(Spec.is (.agg (rwV nx).toArray), false), (Spec.is (.slice (some ⟨ob, 0, none⟩) n n), false), (Spec.is (.int .i64 (t : Int)), false), (Spec.is (.pointer (some ⟨ob, t * 3, none⟩)), false), (Spec.is (.agg (rwV y).toArray), false), (Spec.is (.bool C), false)] 92 (by kernel_rfl) rfl (by decide) rfl (by decide) (by kernel_rfl) ?_ ?_
        · refine ⟨?_, ?_, ?_, ?_, ?_, ?_, trivial⟩
          · intro a W hE hb hs
            have h13 : a.eval (.tmp 13) = .pointer (some ⟨B13, 0, none⟩) := hb 13 (by decide)
            refine flow0 rfl ?_
            exact val_load_row 74 _ rfl B13 0 h13 (rwV nx) d74 (Blk.range (HN.out.below (ext_below hE) HN.out.lt)) hd74 hrow74 (by rw [rwV_len]; kernel_rfl) ⟨rfl, trivial⟩
          · intro a W hE hb hs
            have h7 : a.eval (.tmp 7) = .slice (some ⟨ob, 0, none⟩) n n := hb 7 (by decide)
            refine flow0 rfl ?_
            exact val_move _ rfl _ h7 ⟨rfl, trivial⟩
          · intro a W hE hb hs
            have h12 : a.eval (.tmp 12) = .int .i64 (t : Int) := hb 12 (by decide)
            refine flow0 rfl ?_
            exact val_move _ rfl _ h12 ⟨rfl, trivial⟩
          · intro a W hE hb hs
            have h82 : a.eval (.tmp 82) = .slice (some ⟨ob, 0, none⟩) n n := hs 1 (by decide)
            have h83 : a.eval (.tmp 83) = .int .i64 (t : Int) := hs 2 (by decide)
            refine flow0 rfl ?_
            intro K hK
            unfold Oper.wp execOp
            simp only [h82, h83]
            simp [go_sem, htn]
            exact hK _ _ ⟨Below.refl _ _, rfl, trivial⟩
          · intro a W hE hb hs
            have h84 : a.eval (.tmp 84) = .pointer (some ⟨ob, t * 3, none⟩) := hs 3 (by decide)
            refine flow0 rfl ?_
            exact val_load_row 74 _ rfl ob (t * 3) h84 (rwV y) d74 (Blk.at3 (HO.out.below (ext_below hE) HO.out.lt) Hy.out) hd74 hrow74 (by rw [rwV_len]; kernel_rfl) ⟨rfl, trivial⟩
          · intro a W hE hb hs
            have h81 : a.eval (.tmp 81) = .agg (rwV nx).toArray := hs 0 (by decide)
            have h85 : a.eval (.tmp 85) = .agg (rwV y).toArray := hs 4 (by decide)
            refine flow0 rfl ?_
            exact val_call 41 _ _ rfl (by kernel_rfl) [.agg (rwV nx).toArray, .agg (rwV y).toArray] (by show [a.eval (.tmp 81), a.eval (.tmp 85)] = _; rw [h81, h85]) ((Cheaper_any nx y W (HNt.out.below (ext_below hE)).ok ((Hwt.out y (List.mem_of_getElem? Hy.out)).below (ext_below hE)).ok).mono (by rintro e W' ⟨rfl, hb⟩; exact ⟨_, rfl, hb, (show Value.bool (chB (wyO nx) (wyO y)) = Value.bool C from by rw [wyO_f Hnf.out, Hnw.out, ← HC9.out]), trivial⟩))
        · intro f W hbW hT hp hd
          have e86 : f 86 = .bool C := hT 5 (by decide)
          simp only [putV, List.foldl_cons, List.foldl_nil, Act.put, List.setIfInBounds_toArray, List.set_cons_succ, List.set_cons_zero, Exit.then]
          rw [e86]
          clear hT hp hd
          have HX := Lib.hid hbW
          clear hbW
          go_wp2_with fail
          go_meet
          exact ⟨rfl, HX.out⟩
      case' rest => skip
      obtain ⟨rfl, hb7⟩ := hcut
      obtain ⟨w7, h_⟩ : ∃ v, v = wc := ⟨_, rfl⟩
      subst h_
      replace HN := Lib.hid (HN.out.below hb7 HN.out.lt)
      replace HNt := Lib.hid (HNt.out.below hb7)
      replace HO := Lib.hid (HO.out.below hb7 HO.out.lt)
      replace Hwt := Lib.hid (fun x hx => (Hwt.out x hx).below hb7)
      replace HBr := Lib.hid (HBr.out.trans (hb7.mono hsz6))
      have hsz7 := HBr.out.size
      clear hb7
      by_cases hc : C = true
      rotate_left
      · have hc' : C = false := by simpa using hc
        have hsk := Hba.out.keep Hv.out Hlj.out Huv.out Htv.out Hx.out Hy.out Hxf.out Hfit.out (by rw [← Hy'.out, ← HC9.out]; exact hc')
        have Hsk := Lib.hid hsk
        rw [hc']
        clear hc hc' hsk
        go_wp2_with fail
        exact ⟨⟨j + 1, os, by go_num, by omega, HO.out, Hwt.out, Hsk.out, HBr.out⟩, by simp [intOf]; omega⟩
      have hsk := Hba.out.set Hv.out Hlj.out Huv.out Htv.out Hx.out Hy.out Hxf.out Hfit.out (by rw [← Hy'.out, ← HC9.out]; exact hc) (nx := nx) (by rw [Hnw.out, Hy'.out]) Hnf.out Hnk.out
      have Hsk := Lib.hid hsk
      rw [hc]
      have hob : w1.heap.size ≤ ob := Nat.le_of_eq Hob.out.symm
      have Hone := Lib.hid (rw_one nx)
      have hth : w7.there ob (t * 3) (rwV nx).toArray.size := fun q hq => by
        have hq3 : q < 3 := hq
        have hh := Blk.at3 HO.out Hy.out
        obtain ⟨u, hu⟩ : ∃ u, (rwV y)[q]? = some u := ⟨_, List.getElem?_eq_getElem (by rw [rwV_len]; exact hq3)⟩
        exact ⟨by rw [hh q u hu]; rfl, HO.out.frozen _⟩
      have Hth := Lib.hid hth
      have hkp := kept_setR w7 ob (t * 3) nx
      have hyk : y.kn = false := (Hba.out.short y (List.mem_of_getElem? Hy.out)).2.2
      have Hend := Lib.hid (show Blk (w7.setCells ob (t * 3) (rwV nx)) ob 74 ((os.set t nx).flatMap rwV).toArray ∧ (∀ x ∈ os.set t nx, Wt (w7.setCells ob (t * 3) (rwV nx)) x) ∧ BA vs ls lim fr r (j + 1) (os.set t nx) ∧ Below w1.heap.size w1 (w7.setCells ob (t * 3) (rwV nx)) from
        ⟨Blk.setR HO.out Hy.out (by rw [Hnk.out, hyk]), fun z hz => by
          rcases List.mem_or_eq_of_mem_set hz with h | h
          · exact (Hwt.out z h).kept HO.out (by decide) hkp
          · rw [h]; exact HNt.out.kept HO.out (by decide) hkp, Hsk.out, below_setR HBr.out hob _ nx⟩)
      have Hrx := Lib.hid (Blk.range HN.out)
      clear hc hsk hth hkp hyk
      go_wp2_with (first | (refine wpList_load_mid rfl 74 (.tmp 13) rfl B13 0 rfl (rwV nx) d74 Hrx.out hd74 hrow74 (by rw [rwV_len]; kernel_rfl) ?_) | (refine wpList_store_mid rfl 74 (.tmp 90) (.tmp 89) rfl ob (t * 3) (rwV nx).toArray rfl rfl Hth.out (size74 _ rfl) Hone.out ?_))
      exact ⟨⟨j + 1, os.set t nx, by go_num, by omega, Hend.out⟩, by simp [intOf]; omega⟩
end Go.Proofs.Ytgelchbbknckcaa
