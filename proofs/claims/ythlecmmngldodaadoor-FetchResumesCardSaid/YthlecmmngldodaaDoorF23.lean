/- The law FetchProves. -/
import Derived.Test.YthlecmmngldodaaDoorF22
namespace Go.Proofs.YthlecmmngldodaaDoor
open Go.RowKit Go.Sort

theorem step_load_mid {P : Program} {ops : Array Oper} {Q : Exit → Act → World → Prop} {o : Oper} {a : Act} {w : World} {K : Act → World → Prop} (hg : o.guard = none) (ty : TypeId) (x : Operand) (ho : o.op = .load ty x)
    (b off : Nat) (hx : a.eval x = .pointer (some ⟨b, off, none⟩)) (cs : List Value) (d : TypeDesc) (hc : w.rangeAt b off cs)
    (hu : P.underlying ty = some d) (hd : d.isRow = true) (hi : (P.info? ty).map (·.size) = some cs.length)
    (h : K (a.put o.dst (.agg cs.toArray)) w) : StepP P ops Q o a w K := by
  have hw : Region.wanted o (yielded ops a.tmps) = true := by simp [Region.wanted, hg]
  unfold StepP
  rw [if_pos hw]
  exact wp_load_mid ty x ho b off hx cs d hc hu hd hi h
theorem und50 : Tryd.prog.underlying 50 = some (.array 4 5) := by kernel_rfl
theorem takeH_bad {tr : Sum32} {h : List (List UInt8)} {i : Int} {d : List UInt8} {p : List Sum32} (hb : takeE tr h i d p ≠ 0) : takeH tr h i d p = h := by
  unfold takeH; rw [if_neg (fun e => hb e.1)]
theorem takeH_new {tr : Sum32} {h : List (List UInt8)} {i : Int} {d : List UInt8} {p : List Sum32} (hb : takeE tr h i d p = 0) (he : h.getD i.toNat [] = []) : takeH tr h i d p = h.set i.toNat d := by
  unfold takeH; rw [if_pos ⟨hb, by rw [he]; rfl⟩]

theorem bentD_len (D : List UInt8) (w1 w2 w3 : UInt8) : (bentD D w1 w2 w3).length ≤ D.length + 1 := by
  unfold bentD
  split
  · rw [List.length_set]; omega
  split
  · rw [List.length_take]; omega
  split
  · simp
  · omega
theorem bentN_bd (N : Int) (w1 w3 : UInt8) : N - 3 ≤ bentN N w1 w3 ∧ bentN N w1 w3 ≤ N + 252 := by
  have := w3.toNat_lt
  unfold bentN
  split <;> omega

set_option maxRecDepth 100000 in
set_option maxHeartbeats 4000000 in
theorem FetchProves_any (A : Option Addr) (len cap : Nat) (bs : List UInt8) (x : Int) (b0 b1 b2 b3 : UInt8) (w : World) (hg : Globs w) (hr : Rd w 1 A len (bs.map byteV)) (_hcap : len ≤ cap) (hx : 0 ≤ x ∧ x ≤ 65535) :
    Calls Tryd.prog 5 #[.slice A len cap, .int .u16 x, .agg #[byteV b0, byteV b1, byteV b2, byteV b3]] w fun e w' => e = .returned (.bool true) ∧ Below w.heap.size w w' := by
  obtain ⟨n, rfl⟩ : ∃ n : Nat, x = (n : Int) := ⟨x.toNat, by omega⟩
  obtain ⟨i35, hi35, hz35, hs35, hy35⟩ := info_parts info35
  obtain ⟨d35, hd35, hrow35⟩ := und35
  obtain ⟨i41, hi41, hz41, hs41, hy41⟩ := info_parts info41
  obtain ⟨d41, hd41, hrow41⟩ := undRel
  obtain ⟨i48, hi48, hz48, hs48, hy48⟩ := info_parts info48
  obtain ⟨d48, hd48, hrow48⟩ := und48
  obtain ⟨W0, hW0⟩ : ∃ W0, W0 = w.alloc (.cells #[byteV b0, byteV b1, byteV b2, byteV b3] 50) := ⟨_, rfl⟩
  have hb0 : Below w.heap.size w W0 := by rw [hW0]; exact (Below.refl _ _).alloc (Nat.le_refl _) _
  have hV0 : Blk W0 w.heap.size 50 #[byteV b0, byteV b1, byteV b2, byteV b3] := by rw [hW0]; exact Blk.new _ _ _
  have Hr := Lib.hid (hr.below hb0)
  have Hg := Lib.hid (hg.below hb0)
  have Hs := Lib.hid (Sanity_any W0 (hg.below hb0))
  have HV := Lib.hid hV0
  have HB0 := Lib.hid hb0
  have HW0 := Lib.hid hW0
  clear hr hg hV0 hb0 hW0
  go_enter Tryd.func5, Tryd.ntmps5
  go_upto_region 1 with fail
  rw [← HW0.out]
  clear HW0
  go_wp2_with fail
  refine Hs.out.mono ?_
  rintro e w1 ⟨rfl, hb1⟩
  have Hl := Lib.hid (Long_any A len cap n bs (by omega) w1 (Hr.out.below hb1))
  have HV1 := Lib.hid (HV.out.below hb1 HV.out.lt)
  have Hg1 := Lib.hid (Hg.out.below hb1)
  have HB1 := Lib.hid (HB0.out.trans (hb1.mono HB0.out.size))
  clear hb1 Hs Hr HV Hg HB0
  go_wp2_with fail
  refine Hl.out.mono ?_
  rintro e w2 ⟨A2, c2, rfl, hc2, hr2, hb2⟩
  obtain ⟨X, hX⟩ : ∃ X, X = longL bs n := ⟨_, rfl⟩
  have hXl : X.length = 1 + n % 4000 := by rw [hX]; exact longL_len bs n
  rw [← hX] at hr2
  clear hX
  obtain ⟨L, hL⟩ : ∃ L, L = 1 + n % 4000 := ⟨_, rfl⟩
  have hL1 : 0 < L := by omega
  have hL2 : L ≤ 4000 := by omega
  rw [← hL] at hr2 hc2 hXl ⊢
  clear hL hx
  have Hc := Lib.hid (RCut_any A2 L c2 X w2 hr2 hL1 (by omega) hc2)
  have HV2 := Lib.hid (HV1.out.below hb2 HV1.out.lt)
  have Hg2 := Lib.hid (Hg1.out.below hb2)
  have HB2 := Lib.hid (HB1.out.trans (hb2.mono HB1.out.size))
  have HXl := Lib.hid hXl
  clear hr2 hb2 Hl HB1 hXl HV1 Hg1
  go_wp2_with fail
  refine Hc.out.mono ?_
  rintro e w3 ⟨A3, c3, rfl, hc3, hl3, hb3⟩
  obtain ⟨m, hm⟩ : ∃ m, m = (L + 1023) / 1024 := ⟨_, rfl⟩
  rw [← hm] at hl3 hc3 ⊢
  have hm1 : 1 ≤ m := by omega
  have hm4 : m ≤ 4 := by omega
  have Hm := Lib.hid (show m = (X.length + 1023) / 1024 by rw [HXl.out]; exact hm)
  have hcs : ∀ c ∈ cutL X, c.length ≤ 8796093021000 := fun c hc => by
    obtain ⟨k, hk, rfl⟩ := List.mem_iff_getElem.1 hc
    rw [cutL_len] at hk
    have h1 := cutL_get X hk
    rw [List.getElem?_eq_getElem (by rw [cutL_len]; exact hk)] at h1
    rw [Option.some.inj h1, cutAt_len]; omega
  have Hcs := Lib.hid hcs
  have Hrl := Lib.hid (Release_any A3 m c3 (cutL X) w3 hl3 (by omega) hcs)
  have HL3 := Lib.hid hl3
  have HV3 := Lib.hid (HV2.out.below hb3 HV2.out.lt)
  have Hg3 := Lib.hid (Hg2.out.below hb3)
  have HB3 := Lib.hid (HB2.out.trans (hb3.mono HB2.out.size))
  clear hl3 hb3 Hc HB2 hm hcs HV2 Hg2 hL1 hL2 hc2
  go_wp2_with fail
  refine Hrl.out.mono ?_
  rintro e w4 ⟨rfl, hb4⟩
  obtain ⟨tr, htr⟩ : ∃ tr, tr = root (cutL X) := ⟨_, rfl⟩
  rw [← htr]
  have Htr := Lib.hid htr
  have hn4 : Blk (w4.alloc (.cells (relC 0 0 0 0 z32).toArray 41)) w4.heap.size 41 (relC 0 0 0 0 z32).toArray := Blk.new _ _ _
  have Hn4 := Lib.hid hn4
  have HL4 := Lib.hid (HL3.out.below hb4)
  have HV4 := Lib.hid (HV3.out.below hb4 HV3.out.lt)
  have Hg4 := Lib.hid (Hg3.out.below hb4)
  have HB4 := Lib.hid (HB3.out.trans (hb4.mono HB3.out.size))
  clear hn4 hb4 Hrl HL3 HV3 Hg3 HB3 htr
  go_upto_region 4 with (first | (refine wpList_alloc0 rfl 41 rfl (relC 0 0 0 0 z32).toArray _ i41 hi41 hz41 rfl ?_; simp only [Act.put, List.setIfInBounds_toArray, List.set_cons_succ, List.set_cons_zero]) | (refine wpList_store_row rfl 41 (.tmp 10) (.tmp 25) rfl w4.heap.size (relC 0 0 0 m tr).toArray rfl rfl 41 (relC 0 0 0 0 z32).toArray Hn4.out (size41 _ (by simp [relC_len])) (by simp [relC_len]) (rel_one _ _ _ _ _) ?_))
  obtain ⟨w5, hw5⟩ : ∃ w5, w5 = (w4.alloc (.cells (relC 0 0 0 0 z32).toArray 41)).setRow w4.heap.size (relC 0 0 0 m tr).toArray := ⟨_, rfl⟩
  have hb5 : Below w4.heap.size w4 w5 := by rw [hw5]; exact Below.setRow ((Below.refl _ _).alloc (Nat.le_refl _) _) (Nat.le_refl _) _
  have hR5 : Blk w5 w4.heap.size 41 (relC 0 0 0 m tr).toArray := by rw [hw5]; exact setRow_heap _ _ _ _ _ _ Hn4.out
  rw [← hw5]
  clear hw5 Hn4
  obtain ⟨rb, hrb⟩ : ∃ rb, rb = w4.heap.size := ⟨_, rfl⟩
  rw [← hrb] at hR5 ⊢
  have HR5 := Lib.hid hR5
  have HL5 := Lib.hid (HL4.out.below hb5)
  have HV5 := Lib.hid (HV4.out.below hb5 HV4.out.lt)
  have Hg5 := Lib.hid (Hg4.out.below hb5)
  have HB5 := Lib.hid (HB4.out.trans (hb5.mono HB4.out.size))
  clear hb5 hR5 HL4 HV4 Hg4 HB4 hrb
  obtain ⟨q, hq⟩ : ∃ q, q = b0.toNat % m := ⟨_, rfl⟩
  have hqm : q < m := by rw [hq]; exact Nat.mod_lt _ (by omega)
  have hqi : (b0.toNat : Int) % (m : Int) = (q : Int) := by rw [hq]; omega
  have hx0 := b0.toNat_lt
  have hmq : (wrap64 (b0.toNat : Int)).tmod (m : Int) = (q : Int) := by
    rw [show wrap64 (b0.toNat : Int) = (b0.toNat : Int) from by unfold wrap64; omega, Int.tmod_eq_emod_of_nonneg (by omega), hqi]
  have hrt5 : ∀ w', Ext w5 w' → w'.rangeAt w.heap.size 0 [byteV b0, byteV b1, byteV b2, byteV b3] := fun w' hw' => Blk.range (HV5.out.below (ext_below hw') HV5.out.lt)
  have Hrt5 := Lib.hid hrt5
  have e0 : w5.cell? ⟨w.heap.size, 0, none⟩ = some (.int .u8 (b0.toNat : Int)) := by rw [HV5.out.cell]; rfl
  have e0r := cell_regrown e0
  clear hrt5 hq e0
  simp only [Act.put]
  go_cut [11] from 26 to 37 (fun t11 wx => ∃ (B : Nat) (y : Ck), t11 = .pointer (some ⟨B, 0, none⟩) ∧ w5.heap.size ≤ B ∧ Blk wx B 48 (ckV y).toArray ∧ y.i = bentN (q : Int) b1 b3 ∧
      TRd wx 5 1 y.d.a y.d.n ((bentD (cutAt X q) b1 b2 b3).map byteV) ∧ y.d.n ≤ y.d.c ∧ TRd wx 33 32 y.l.a y.l.n ((bentL (proofL ((cutL X).map leafS) q) b1 b2 b3).flatMap sumC) ∧ y.l.n ≤ y.l.c ∧ Below w5.heap.size w5 wx)
  case first =>
    refine wp_region_reads_tail 13 [10, 0, 2, 3, 4, 5, 6, 7] 5 (by kernel_rfl) (List.take_append_drop _ _) rfl (by kernel_rfl) (by kernel_rfl) (by kernel_rfl) (by decide) (by kernel_rfl) (by kernel_rfl) (fun _ _ d _ _ h => by cases d <;> exact h) (by kernel_rfl) (by kernel_rfl) rfl ?_
    simp only [List.take_succ_cons, List.take_zero, List.drop_succ_cons, List.drop_zero, pickOps, List.getElem?_cons_zero, List.getElem?_cons_succ]
    refine wpQuiet_load_mid rfl 50 _ rfl w.heap.size 0 rfl [byteV b0, byteV b1, byteV b2, byteV b3] _ Hrt5.out und50 rfl (by kernel_rfl) ?_
    simp only [Act.put, List.setIfInBounds_toArray, List.set_cons_succ, List.set_cons_zero]
    repeat (go_big_quiet_step (fail))
    refine wpQuiet_nil ?_
    clear hmq Hrt5 e0r
    refine web_start0 (fs := [floVar 12 11 48 (ckV zck).toArray]) [.act 1 [], .plain [8], .act 9 [], .act 11 []] _ _ (by kernel_rfl) (fun _ _ d _ _ h => by cases d <;> exact h) ⟨⟨_, rfl, flo_var rfl rfl rfl _ i48 hi48 hz48 rfl⟩, trivial⟩ (by decide) (by decide) (by kernel_rfl) (by kernel_rfl) (ext_drew (ext_refl _)) (by intro F hF; simp at hF; subst hF; simp) 5 (by decide) (by kernel_rfl) ?_
    intro v1 W hW _ o ho K hK
    cases ho
    have hbW : Below w5.heap.size w5 W := ((Below.refl _ w5).drew).trans hW
    simp only [putS, List.foldl_cons, List.foldl_nil, Act.put, List.setIfInBounds_toArray, List.set_cons_succ, List.set_cons_zero]
    have Hpf := Lib.hid (Proofs_any A3 m c3 (cutL X) W (HL5.out.below hbW) (by omega) Hcs.out)
    unfold StepP
    go_simp
    refine Hpf.out.mono ?_
    rintro e W2 ⟨A6, c6, ks, rfl, hc6, hks, hr6, hp6, hb2⟩
    refine hK _ _ (by intro F hF; simp at hF; subst hF; exact ⟨rfl, by simp [Act.put]⟩) hb2 ?_
    have hb12 := hbW.trans (hb2.mono hbW.size)
    obtain ⟨bk, ok, y, rfl, hy, hcy⟩ := hr6.flat_ ckV_len (by omega) hqm
    obtain ⟨hyi, c, hc, hyd, hydc, _, hyl, hylc⟩ := hp6 q y hy
    rw [cutL_get X (by rw [← Hm.out]; exact hqm)] at hc
    obtain rfl : cutAt X q = c := Option.some.inj hc
    have hcl := cutAt_len X q
    have hyn := hyd.len1
    have hpl : (proofL ((cutL X).map leafS) q).length ≤ 2 := proofL_length 2 _ _ (by rw [List.length_map, cutL_len, ← Hm.out]; omega)
    have hyl' := hyl.rd.lenf sumC_len (by omega)
    have hxl := HXl.out
    have hmm := Hm.out
    have hdn : 1 ≤ y.d.n ∧ y.d.n ≤ 1024 := by omega
    have hln : y.l.n ≤ 2 := by omega
    have hrg : ∀ W', Below W2.heap.size W2 W' → W'.rangeAt bk (ok + q * 3) (ckV y) := fun W' hb j v hv => by
      have := hcy j v hv
      rw [← Nat.add_assoc] at this
      exact (hb.cell (World.block_lt_of_cell? W2 _ this)).trans this
    obtain ⟨yi, ⟨da, dn, dc⟩, ⟨la, ln, lc⟩⟩ := y
    simp only at hyi hyd hydc hyl hylc hyn hyl' hdn hln
    subst hyi
    have Hrg := Lib.hid hrg
    have Hyd := Lib.hid hyd
    have Hyl := Lib.hid hyl
    have Hb12 := Lib.hid hb12
    have hs2 := hb12.size
    clear hK K hrg hyd hyl hb2 hb12 hW hbW hp6 hr6 hcy hy hc hcl hyn hpl hyl' hxl hmm Hpf hks
    intro v2 W3 hW3
    simp only [putS, List.foldl_cons, List.foldl_nil, Act.put, List.setIfInBounds_toArray, List.set_cons_succ, List.set_cons_zero, pickOps, List.getElem?_cons_zero, List.getElem?_cons_succ]
    repeat (go_big_quiet_step (fail))
    refine wpQuiet_nil ?_
    refine ⟨by intro F hF; simp at hF; subst hF; exact ⟨rfl, by simp⟩, ?_⟩
    intro v3 W4 hW4 _ o ho K hK
    cases ho
    have hW24 := hW3.trans (hW4.mono hW3.size)
    simp only [putS, List.foldl_cons, List.foldl_nil, Act.put, List.setIfInBounds_toArray, List.set_cons_succ, List.set_cons_zero]
    refine step_load_mid rfl 48 _ rfl bk (ok + q * 3) rfl (ckV ⟨(q : Int), ⟨da, dn, dc⟩, ⟨la, ln, lc⟩⟩) d48 (Hrg.out _ hW24) hd48 hrow48 (by kernel_rfl) ?_
    refine hK _ _ (by intro F hF; simp at hF; subst hF; exact ⟨rfl, by simp [Act.put]⟩) (Below.refl _ _) ?_
    clear hK K
    intro v4 W5 hW5 _ o ho K hK
    cases ho
    have hW25 := hW24.trans (hW5.mono hW24.size)
    simp only [putS, List.foldl_cons, List.foldl_nil, Act.put, List.setIfInBounds_toArray, List.set_cons_succ, List.set_cons_zero]
    have Hbt := Lib.hid (Bent_any (q : Int) da dn dc (cutAt X q) la ln lc (proofL ((cutL X).map leafS) q) b0 b1 b2 b3 W5 (by omega) (Hyd.out.below hW25) (by omega) (Hyl.out.rd.below hW25) (by omega))
    unfold StepP
    go_simp
    refine Hbt.out.mono ?_
    rintro e W7 ⟨z, rfl, hz1, hz2, hz3, hz4, hz5, hb7⟩
    refine hK _ _ (by intro F hF; simp at hF; subst hF; exact ⟨rfl, by simp [Act.put]⟩) hb7 ?_
    have hW27 := hW25.trans (hb7.mono hW25.size)
    clear hK K Hbt
    intro v5 W8 hW8 hall
    obtain ⟨B, hvB, hBw, hBb⟩ := hall (floVar 12 11 48 (ckV zck).toArray) (by simp) (floVar 12 11 48 (ckV zck).toArray) (by simp) rfl
    have hvB' : v5 12 = .pointer (some ⟨B, 0, none⟩) := hvB
    have hW28 := hW27.trans (hW8.mono hW27.size)
    have hb8 := Hb12.out.trans (hW28.mono hs2)
    have hset := Below.setRow hb8 hBw (ckV z).toArray
    have HK := (KeptIn.refl (fun k => k ≠ B) W8).setRow (g := B) (fun h => h rfl) (ckV z).toArray
    have hz2' := (hz2.below hW8).kept hBb (by decide) HK
    have hz4' := (hz4.below hW8).kept hBb (by decide) HK
    have hB' : Blk (W8.setRow B (ckV z).toArray) B 48 (ckV z).toArray := setRow_heap _ _ _ _ _ _ hBb
    have Hset := Lib.hid hset
    have Hz2 := Lib.hid hz2'
    have Hz4 := Lib.hid hz4'
    have HB' := Lib.hid hB'
    simp only [Exit.then, putS, List.foldl_cons, List.foldl_nil, Act.put, List.setIfInBounds_toArray, List.set_cons_succ, List.set_cons_zero]
    rw [hvB']
    refine wpList_store_row rfl 48 (.tmp 11) (.tmp 37) rfl B (ckV z).toArray rfl rfl 48 (ckV zck).toArray hBb (size48 _ rfl) rfl (ck_all _) ?_
    refine wpList_nil ?_
    clear hset HK hz2 hz4 hz2' hz4' hB' hb7 hb8 hW8 hW27 hW28 hW25 hW24 hW5 hW4 hW3 hall hvB hvB' hBb
    go_wp2_with fail
    go_meet
    exact ⟨B, z, rfl, hBw, HB'.out, hz1, Hz2.out, hz3, Hz4.out, hz5, Hset.out⟩
  case' rest => skip
  obtain ⟨B, z, rfl, hBw, hB6, hz1, hz2, hz3, hz4, hz5, hb6⟩ := hcut
  clear hmq hqi
  obtain ⟨w6, hw6⟩ : ∃ v, v = wc := ⟨_, rfl⟩
  subst hw6
  obtain ⟨zi, ⟨za, zn, zc⟩, ⟨ya, yn, yc⟩⟩ := z
  simp only at hz1 hz2 hz3 hz4 hz5
  obtain ⟨D, hD⟩ : ∃ D, D = bentD (cutAt X q) b1 b2 b3 := ⟨_, rfl⟩
  obtain ⟨Pf, hPf⟩ : ∃ Pf, Pf = bentL (proofL ((cutL X).map leafS) q) b1 b2 b3 := ⟨_, rfl⟩
  rw [← hD] at hz2
  rw [← hPf] at hz4
  have hDl : D.length ≤ 1025 := by
    rw [hD]
    have h1 := bentD_len (cutAt X q) b1 b2 b3
    have h2 := cutAt_len X q
    omega
  have hzn := hz2.rd.len1
  have hzi : -3 ≤ zi ∧ zi ≤ 300 := by
    rw [hz1]
    have := bentN_bd (q : Int) b1 b3
    omega
  have hzn2 : zn ≤ 1025 := by omega
  have Hzn := Lib.hid hzn
  have HB6 := Lib.hid hB6
  have Hz2 := Lib.hid hz2
  have Hz4 := Lib.hid hz4
  have Hb6 := Lib.hid hb6
  have HR6 := Lib.hid (HR5.out.below hb6 HR5.out.lt)
  have Hg6 := Lib.hid (Hg5.out.below hb6)
  have HB6' := Lib.hid (HB5.out.trans (hb6.mono HB5.out.size))
  have Hn := Lib.hid (New_typed (relC 0 0 0 m tr) m tr (relC_n _ _ _ _ _) (relC_t _ _ _ _ _) hm1 (by omega) w6)
  clear hz1 hD hPf hDl hzn hB6 hz2 hz4 hb6 HR5 Hg5 HB5 hqm e0r Hrt5 HV5 HL5 Hcs Hb6
  go_upto_region 6 with (refine wpList_load_mid rfl 41 (.tmp 10) rfl rb 0 rfl (relC 0 0 0 m tr) _ (Blk.range HR6.out) hd41 hrow41 (by rw [relC_len]; kernel_rfl) ?_)
  refine Hn.out.mono ?_
  rintro e w7 ⟨g7, rfl, hk7, hb7⟩
  have hn7 : Blk (w7.alloc (.cells (fetchC z32 none 0 0).toArray 35)) w7.heap.size 35 (fetchC z32 none 0 0).toArray := Blk.new _ _ _
  have Hn7 := Lib.hid hn7
  have HT7 := Lib.hid (tlst_empty hk7 (by omega))
  have HB7 := Lib.hid (HB6.out.below hb7 HB6.out.lt)
  have HR7 := Lib.hid (HR6.out.below hb7 HR6.out.lt)
  have Hg7 := Lib.hid (Hg6.out.below hb7)
  have Hz27 := Lib.hid (Hz2.out.below hb7)
  have Hz47 := Lib.hid (Hz4.out.below hb7)
  have HBB7 := Lib.hid (HB6'.out.trans (hb7.mono HB6'.out.size))
  clear hn7 hk7 hb7 Hn HB6 HR6 Hg6 Hz2 Hz4 HB6'
  go_upto_region 6 with (first | (refine wpList_alloc0 rfl 35 rfl (fetchC z32 none 0 0).toArray _ i35 hi35 hz35 rfl ?_; simp only [Act.put, List.setIfInBounds_toArray, List.set_cons_succ, List.set_cons_zero]) | (refine wpList_store_row rfl 35 (.tmp 12) (.tmp 41) rfl w7.heap.size (fetchC tr (some ⟨g7, 0, none⟩) m m).toArray rfl rfl 35 (fetchC z32 none 0 0).toArray Hn7.out (size35 _ (by simp [fetchC_len])) (by simp [fetchC_len]) (fetch_one _ _ _ _) ?_))
  obtain ⟨w8, hw8⟩ : ∃ w8, w8 = (w7.alloc (.cells (fetchC z32 none 0 0).toArray 35)).setRow w7.heap.size (fetchC tr (some ⟨g7, 0, none⟩) m m).toArray := ⟨_, rfl⟩
  have hb8 : Below w7.heap.size w7 w8 := by rw [hw8]; exact Below.setRow ((Below.refl _ _).alloc (Nat.le_refl _) _) (Nat.le_refl _) _
  have hF8 : Blk w8 w7.heap.size 35 (fetchC tr (some ⟨g7, 0, none⟩) m m).toArray := by rw [hw8]; exact setRow_heap _ _ _ _ _ _ Hn7.out
  rw [← hw8]
  clear hw8 Hn7
  obtain ⟨fb, hfb⟩ : ∃ fb, fb = w7.heap.size := ⟨_, rfl⟩
  rw [← hfb] at hF8 ⊢
  clear hfb
  have HF8 := Lib.hid hF8
  have HT8 := Lib.hid (HT7.out.below hb8)
  have HB8 := Lib.hid (HB7.out.below hb8 HB7.out.lt)
  have HR8 := Lib.hid (HR7.out.below hb8 HR7.out.lt)
  have Hg8 := Lib.hid (Hg7.out.below hb8)
  have Hz28 := Lib.hid (Hz27.out.below hb8)
  have Hz48 := Lib.hid (Hz47.out.below hb8)
  have HBB8 := Lib.hid (HBB7.out.trans (hb8.mono HBB7.out.size))
  clear hb8 hF8 HT7 HB7 HR7 Hg7 Hz27 Hz47 HBB7
  have htk := Take_typed tr (some ⟨g7, 0, none⟩) m m (List.replicate m []) zi za zn zc D ya yn yc Pf w8 Hg8.out HT8.out.lst (by omega) Hz28.out.rd (by omega) Hz48.out.rd hz5 (by omega)
  obtain ⟨E, hE⟩ : ∃ E, E = takeE tr (List.replicate m []) zi D Pf := ⟨_, rfl⟩
  obtain ⟨H, hH⟩ : ∃ H, H = takeH tr (List.replicate m []) zi D Pf := ⟨_, rfl⟩
  rw [← hE, ← hH] at htk
  have Htk := Lib.hid htk
  have HE := Lib.hid hE
  have HH := Lib.hid hH
  clear htk hE hH
  have k0 : w8.cell? ⟨B, 0, none⟩ = some (.int .i64 zi) := by rw [HB8.out.cell]; rfl
  have k1 : w8.cell? ⟨B, 1, none⟩ = some (.slice za zn zc) := by rw [HB8.out.cell]; rfl
  have k2 : w8.cell? ⟨B, 2, none⟩ = some (.slice ya yn yc) := by rw [HB8.out.cell]; rfl
  go_upto_region 9 with (refine wpList_load_mid rfl 35 (.tmp 12) rfl fb 0 rfl (fetchC tr (some ⟨g7, 0, none⟩) m m) _ (fetch_range HF8.out) hd35 hrow35 (by rw [fetchC_len]; kernel_rfl) ?_)
  refine Htk.out.mono ?_
  rintro e w9 ⟨A9, c9, rfl, hl9, _, hb9⟩
  have hn9 : Blk (w9.alloc (.cells (fetchC z32 none 0 0).toArray 35)) w9.heap.size 35 (fetchC z32 none 0 0).toArray := Blk.new _ _ _
  have Hn9 := Lib.hid hn9
  have HL9 := Lib.hid hl9
  have HF9 := Lib.hid (HF8.out.below hb9 HF8.out.lt)
  have HT9 := Lib.hid (HT8.out.below hb9)
  have HB9 := Lib.hid (HB8.out.below hb9 HB8.out.lt)
  have HR9 := Lib.hid (HR8.out.below hb9 HR8.out.lt)
  have Hg9 := Lib.hid (Hg8.out.below hb9)
  have Hz29 := Lib.hid (Hz28.out.below hb9)
  have Hz49 := Lib.hid (Hz48.out.below hb9)
  have HBB9 := Lib.hid (HBB8.out.trans (hb9.mono HBB8.out.size))
  clear hn9 hl9 hb9 Htk HF8 HT8 HB8 HR8 Hg8 Hz28 Hz48 HBB8 k0 k1 k2
  go_upto_region 9 with (first | (refine wpList_alloc0 rfl 35 rfl (fetchC z32 none 0 0).toArray _ i35 hi35 hz35 rfl ?_; simp only [Act.put, List.setIfInBounds_toArray, List.set_cons_succ, List.set_cons_zero]) | (refine wpList_store_row rfl 35 (.tmp 14) (.tmp 54) rfl w9.heap.size (fetchC tr A9 m c9).toArray rfl rfl 35 (fetchC z32 none 0 0).toArray Hn9.out (size35 _ (by simp [fetchC_len])) (by simp [fetchC_len]) (fetch_one _ _ _ _) ?_))
  obtain ⟨wa, hwa⟩ : ∃ wa, wa = (w9.alloc (.cells (fetchC z32 none 0 0).toArray 35)).setRow w9.heap.size (fetchC tr A9 m c9).toArray := ⟨_, rfl⟩
  have hba : Below w9.heap.size w9 wa := by rw [hwa]; exact Below.setRow ((Below.refl _ _).alloc (Nat.le_refl _) _) (Nat.le_refl _) _
  have hNa : Blk wa w9.heap.size 35 (fetchC tr A9 m c9).toArray := by rw [hwa]; exact setRow_heap _ _ _ _ _ _ Hn9.out
  rw [← hwa]
  clear hwa Hn9
  obtain ⟨nb, hnb⟩ : ∃ nb, nb = w9.heap.size := ⟨_, rfl⟩
  rw [← hnb] at hNa ⊢
  clear hnb
  have HNa := Lib.hid hNa
  have HLa := Lib.hid (HL9.out.below hba)
  have HFa := Lib.hid (HF9.out.below hba HF9.out.lt)
  have HTa := Lib.hid (HT9.out.below hba)
  have HBa := Lib.hid (HB9.out.below hba HB9.out.lt)
  have HRa := Lib.hid (HR9.out.below hba HR9.out.lt)
  have Hga := Lib.hid (Hg9.out.below hba)
  have Hz2a := Lib.hid (Hz29.out.below hba)
  have Hz4a := Lib.hid (Hz49.out.below hba)
  have HBBa := Lib.hid (HBB9.out.trans (hba.mono HBB9.out.size))
  clear hba hNa HL9 HF9 HT9 HB9 HR9 Hg9 Hz29 Hz49 HBB9
  have k0 : wa.cell? ⟨B, 0, none⟩ = some (.int .i64 zi) := by rw [HBa.out.cell]; rfl
  have k1 : wa.cell? ⟨B, 1, none⟩ = some (.slice za zn zc) := by rw [HBa.out.cell]; rfl
  have k2 : wa.cell? ⟨B, 2, none⟩ = some (.slice ya yn yc) := by rw [HBa.out.cell]; rfl
  obtain ⟨pr, hpr⟩ : ∃ pr, pr = properB zn zi m := ⟨_, rfl⟩
  have hprc := RProper_any za zn zc zi m (by omega) (by omega) wa
  rw [← hpr] at hprc
  have Hprc := Lib.hid hprc
  have Hpr := Lib.hid hpr
  clear hprc hpr
  have hwaw : w.heap.size ≤ wa.heap.size := HBBa.out.size
  have Hsm := Lib.hid (RSame_any tr tr A9 (some ⟨g7, 0, none⟩) m m c9 m H (List.replicate m []) wa HLa.out HTa.out.lst)
  go_cut [75] from 56 to 74 (fun t75 wx => t75 = .bool (decide (zi < 0 ∨ (m : Int) ≤ zi ∨ pr = false)) ∧ wx = wa)
  case first =>
    by_cases h0 : zi < 0
    · have d1 : decide (zi < 0) = true := decide_eq_true h0
      have Hd := Lib.hid (decide_eq_true (show zi < 0 ∨ (m : Int) ≤ zi ∨ pr = false from Or.inl h0))
      go_wp2_with fail
      go_meet
      exact ⟨by rw [Hd.out], rfl⟩
    · have d1 : decide (zi < 0) = false := decide_eq_false h0
      by_cases h1 : (m : Int) ≤ zi
      · have d2 : decide ((m : Int) ≤ zi) = true := decide_eq_true h1
        have Hd := Lib.hid (decide_eq_true (show zi < 0 ∨ (m : Int) ≤ zi ∨ pr = false from Or.inr (Or.inl h1)))
        go_wp2_with fail
        go_meet
        exact ⟨by rw [Hd.out], rfl⟩
      · have d2 : decide ((m : Int) ≤ zi) = false := decide_eq_false h1
        go_wp2_with fail
        refine Hprc.out.mono ?_
        rintro e w' ⟨rfl, rfl⟩
        have Hd := Lib.hid (show (!pr) = decide (zi < 0 ∨ (m : Int) ≤ zi ∨ pr = false) from by
          cases pr
          · rw [decide_eq_true (Or.inr (Or.inr rfl))]; rfl
          · rw [decide_eq_false (by simp only [Bool.true_eq_false, or_false]; omega)]; rfl)
        clear d1 d2
        go_wp2_with fail
        go_meet
        exact ⟨by rw [← Hd.out], rfl⟩
  case' rest => skip
  obtain ⟨rfl, hwc⟩ := hcut
  have hwd := hwc.symm
  subst hwd
  clear hwc
  by_cases hbad : zi < 0 ∨ (m : Int) ≤ zi ∨ pr = false
  · have hE : E = 280 := by
      rw [HE.out]
      refine takeE_bad ?_
      rw [List.length_replicate, Hzn.out, ← Hpr.out]
      exact hbad
    have hH : H = List.replicate m [] := by rw [HH.out]; exact takeH_bad (by rw [← HE.out, hE]; decide)
    have hs := Hsm.out
    rw [decide_eq_true (show tr = tr ∧ H = List.replicate m [] from ⟨rfl, hH⟩)] at hs
    have Hs2 := Lib.hid hs
    rw [decide_eq_true hbad]
    clear HE HH Hsm hs hH hbad k0 k1 k2
    subst hE
    go_wp2_with (first | (refine wpList_load_mid_g (by first | rfl | simp [Region.wanted, yielded]) 35 (.tmp 14) rfl nb 0 rfl (fetchC tr A9 m c9) _ (fetch_range HNa.out) hd35 hrow35 (by rw [fetchC_len]; kernel_rfl) ?_) | (refine wpList_load_mid_g (by first | rfl | simp [Region.wanted, yielded]) 35 (.tmp 12) rfl fb 0 rfl (fetchC tr (some ⟨g7, 0, none⟩) m m) _ (fetch_range HFa.out) hd35 hrow35 (by rw [fetchC_len]; kernel_rfl) ?_))
    refine Hs2.out.mono ?_
    rintro e w' ⟨rfl, hb'⟩
    have HBe := Lib.hid (HBBa.out.trans (hb'.mono hwaw))
    clear hb' Hs2
    go_wp2_with fail
    go_ret
    exact ⟨rfl, HBe.out⟩
  · obtain ⟨i, rfl⟩ : ∃ i : Nat, zi = (i : Int) := ⟨zi.toNat, by omega⟩
    have him : i < m := by omega
    have hpt : properB zn (i : Int) m = true := by
      rw [← Hpr.out]
      cases h : pr
      · exact absurd (Or.inr (Or.inr h)) hbad
      · rfl
    rw [decide_eq_false hbad]
    have hrt : wa.rangeAt rb 37 (sumC tr) := fun j u hu => by
      rw [HRa.out.cell, List.getElem?_toArray]
      exact relC_t 0 0 0 m tr j u hu
    have hck := Check_any tr m i za ya zn zc yn yc D Pf him (by omega) wa Hga.out Hz2a.out.rd (by omega) Hz4a.out.rd hz5
    rw [show sumV tr.1 = .agg (sumC tr).toArray from rfl] at hck
    have hte := takeE_ok (tr := tr) (h := List.replicate m []) (i := i) (d := D) (p := Pf) (by rw [List.length_replicate]; exact him) (by rw [List.length_replicate, Hzn.out]; exact hpt)
    rw [List.length_replicate, ← HE.out] at hte
    have Hrt := Lib.hid hrt
    clear hrt hpt hbad
    by_cases hres : chkL m i (leafS D) Pf = some tr
    · rw [decide_eq_true hres] at hck
      rw [if_pos hres] at hte
      have Hck := Lib.hid hck
      have hH : H = (List.replicate m []).set i D := by
        rw [HH.out]
        exact takeH_new (by rw [← HE.out]; exact hte) (by rw [Int.toNat_natCast, List.getD_eq_getElem?_getD, List.getElem?_replicate, if_pos him]; rfl)
      have HHs := Lib.hid hH
      clear HE HH Hsm hck hres hH
      subst hte
      go_upto_region 12 with (refine wpList_load_mid rfl 33 _ rfl rb 37 rfl (sumC tr) _ Hrt.out und32 rfl (by rw [sumC_len]; kernel_rfl) ?_)
      refine Hck.out.mono ?_
      rintro e wb ⟨rfl, hbb⟩
      have HNb := Lib.hid (HNa.out.below hbb HNa.out.lt)
      have HBb := Lib.hid (HBa.out.below hbb HBa.out.lt)
      obtain ⟨bA, oA, v, z, rfl, hz, cz, hrz, hvz⟩ := (HLa.out.below hbb).at_ him
      have hzD : z = D := by
        rw [HHs.out, List.getElem?_set_self (by rw [List.length_replicate]; exact him)] at hz
        exact (Option.some.inj hz).symm
      subst hzD
      have n32 : wb.cell? ⟨nb, 32, none⟩ = some (.slice (some ⟨bA, oA, none⟩) m c9) := by rw [HNb.out.cell]; exact fetchC_have _ _ _ _
      have k0 : wb.cell? ⟨B, 0, none⟩ = some (.int .i64 (i : Int)) := by rw [HBb.out.cell]; rfl
      have k1 : wb.cell? ⟨B, 1, none⟩ = some (.slice za zn zc) := by rw [HBb.out.cell]; rfl
      have hcx : ∀ j, (convert 22 9 (.slice v.a v.n v.c)).run Tryd.prog (wb.drewN j) = .ok (.string (str z)) (wb.drewN j) := fun j => convert_bytes v.a v.n v.c z _ (hrz.drewN j)
      have hz2b := Hz2a.out.rd.below hbb
      have hcy : ∀ j, (convert 22 9 (.slice za zn zc)).run Tryd.prog (wb.drewN j) = .ok (.string (str z)) (wb.drewN j) := fun j => convert_bytes za zn zc z _ (hz2b.drewN j)
      have hsb2 : ((str z).toList == (str z).toList) = true := by rw [str_beq, decide_eq_true rfl]
      have HBc := Lib.hid (HBBa.out.trans (hbb.mono hwaw))
      clear hbb hz hrz hvz Hck HHs hz2b HNb HBb Hzn
      go_upto_region 12 with fail
      go_quiet (fail)
      have HBq := Lib.hid (below_drewN HBc.out nq)
      clear hcx hcy
      generalize wb.drewN nq = wq at *
      go_wp2_with fail
      go_ret
      exact ⟨rfl, HBq.out⟩
    · rw [decide_eq_false hres] at hck
      rw [if_neg hres] at hte
      have Hck := Lib.hid hck
      have hH : H = List.replicate m [] := by rw [HH.out]; exact takeH_bad (by rw [← HE.out, hte]; decide)
      have hs : ∀ wb, Below wa.heap.size wa wb → Calls Tryd.prog 19 #[.agg (fetchC tr A9 m c9).toArray, .agg (fetchC tr (some ⟨g7, 0, none⟩) m m).toArray] wb fun e w' => e = .returned (.bool true) ∧ Below wb.heap.size wb w' := fun wb hb => by
        have := RSame_any tr tr A9 (some ⟨g7, 0, none⟩) m m c9 m H (List.replicate m []) wb (HLa.out.below hb) (HTa.out.lst.below hb)
        rwa [decide_eq_true (show tr = tr ∧ H = List.replicate m [] from ⟨rfl, hH⟩)] at this
      have Hs2 := Lib.hid hs
      clear HE HH Hsm hck hres hH hs
      subst hte
      go_upto_region 12 with (refine wpList_load_mid rfl 33 _ rfl rb 37 rfl (sumC tr) _ Hrt.out und32 rfl (by rw [sumC_len]; kernel_rfl) ?_)
      refine Hck.out.mono ?_
      rintro e wb ⟨rfl, hbb⟩
      have HNb := Lib.hid (HNa.out.below hbb HNa.out.lt)
      have HFb := Lib.hid (HFa.out.below hbb HFa.out.lt)
      have Hs3 := Lib.hid (Hs2.out wb hbb)
      have HBc := Lib.hid (HBBa.out.trans (hbb.mono hwaw))
      have hsz := hbb.size
      clear hbb Hck Hs2 k0 k1 k2
      go_wp2_with (first | (refine wpList_load_mid_g (by first | rfl | simp [Region.wanted, yielded]) 35 (.tmp 14) rfl nb 0 rfl (fetchC tr A9 m c9) _ (fetch_range HNb.out) hd35 hrow35 (by rw [fetchC_len]; kernel_rfl) ?_) | (refine wpList_load_mid_g (by first | rfl | simp [Region.wanted, yielded]) 35 (.tmp 12) rfl fb 0 rfl (fetchC tr (some ⟨g7, 0, none⟩) m m) _ (fetch_range HFb.out) hd35 hrow35 (by rw [fetchC_len]; kernel_rfl) ?_))
      refine Hs3.out.mono ?_
      rintro e w' ⟨rfl, hb'⟩
      have HBe := Lib.hid (HBc.out.trans (hb'.mono HBc.out.size))
      clear hb' Hs3
      go_wp2_with fail
      go_ret
      exact ⟨rfl, HBe.out⟩
end Go.Proofs.YthlecmmngldodaaDoor
