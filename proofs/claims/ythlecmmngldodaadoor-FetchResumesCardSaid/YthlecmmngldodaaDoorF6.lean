/- Package fetch: Take. -/
import Derived.Test.YthlecmmngldodaaDoorF5
import Derived.Deep.CutRange
namespace Go.Proofs.YthlecmmngldodaaDoor
open Go.RowKit Go.Sort

theorem und35r : ∃ d, Tryd.prog.underlying 35 = some d ∧ d.isRow = true := und35
theorem fetch_range {W : World} {B : Nat} {tr : Sum32} {A : Option Addr} {n c : Nat} (h : Blk W B 35 (fetchC tr A n c).toArray) : W.rangeAt B 0 (fetchC tr A n c) := Blk.range h

theorem after_store {W a : World} {B s base n t e : Nat} {v : Value} {xs : List Value} {old : Array Value} (hZ : Blk W B t old) (hrow : W.ownsRow base e 1 v n xs) (hn : 0 < n) (hne : t ≠ e) (hb : Below s a W) (hs : s ≤ B) (cs : Array Value) :
    Blk (W.setRow B cs) B t cs ∧ (W.setRow B cs).ownsRow base e 1 v n xs ∧ Below s a (W.setRow B cs) := by
  have hK := (KeptIn.refl (fun k => k ≠ B) W).setRow (g := B) (fun h => h rfl) cs
  refine ⟨setRow_heap _ _ _ _ _ _ hZ, hrow.kept hK.grownBut (.inr (fun e' => (AppZ.own_ne (.inr hrow) hn hZ hne) e'.symm)), Below.setRow hb hs cs⟩
theorem App.own {w : World} {base n : Nat} {e : TypeId} {v : Value} {xs : List Value} (h : App w base e v n xs) (hn : 0 < n) : ∃ A c, v = .slice A n c ∧ n ≤ c ∧ w.ownsRow base e 1 v n xs := by
  obtain ⟨A, c, rfl, hc, _⟩ := h.rd
  rcases h with ⟨h0, _⟩ | h
  · omega
  · exact ⟨A, c, rfl, hc, h⟩

/-- A list of lists of bytes, known with the types of its blocks. -/
def TLst (w : World) (A : Option Addr) (n : Nat) (cs : List (List UInt8)) : Prop :=
  ∃ vs : List Sl, TRd w 22 1 A n (vs.map slV) ∧ cs.length = n ∧ ∀ (k : Nat) (v : Sl) (c : List UInt8), vs[k]? = some v → cs[k]? = some c → TRd w 5 1 v.a v.n (c.map byteV) ∧ v.n ≤ v.c
theorem TLst.lst {w : World} {A : Option Addr} {n : Nat} {cs : List (List UInt8)} (h : TLst w A n cs) : Lst w A n cs := by
  obtain ⟨vs, h1, h2, h3⟩ := h
  exact ⟨vs, h1.1, h2, fun k v c hv hc => ⟨(h3 k v c hv hc).1.1, (h3 k v c hv hc).2⟩⟩
theorem TLst.below {w w' : World} {A : Option Addr} {n : Nat} {cs : List (List UInt8)} (h : TLst w A n cs) (hb : Below w.heap.size w w') : TLst w' A n cs := by
  obtain ⟨vs, h1, h2, h3⟩ := h
  exact ⟨vs, h1.below hb, h2, fun k v c hv hc => ⟨(h3 k v c hv hc).1.below hb, (h3 k v c hv hc).2⟩⟩
theorem TLst.grown {w w' : World} {A : Option Addr} {n t : Nat} {cs : List (List UInt8)} {row : Option Nat} (h : TLst w A n cs) (hg : w.grownBy w' row) (hrow : ∀ g, row = some g → ∃ cur, Blk w g t cur) (h5 : t ≠ 5) (h22 : t ≠ 22) : TLst w' A n cs := by
  obtain ⟨vs, h1, h2, h3⟩ := h
  exact ⟨vs, h1.grown hg hrow h22, h2, fun k v c hv hc => ⟨(h3 k v c hv hc).1.grown hg hrow h5, (h3 k v c hv hc).2⟩⟩
theorem slV_inj {v u : Sl} (h : slV v = slV u) : v = u := by
  cases v; cases u
  simp only [slV, Value.slice.injEq] at h
  obtain ⟨rfl, rfl, rfl⟩ := h
  rfl
theorem Rd.uniq {w : World} {A : Option Addr} {n : Nat} {vs us : List Sl} (h : Rd w 1 A n (vs.map slV)) (h' : Rd w 1 A n (us.map slV)) : vs = us := by
  have hl := h.len1
  have hl' := h'.len1
  apply List.ext_getElem?
  intro k
  by_cases hk : k < n
  · obtain ⟨b, off, x, e, hx, hc⟩ := h.at_ hk
    obtain ⟨b', off', y, e', hy, hc'⟩ := h'.at_ hk
    rw [e] at e'
    cases e'
    rw [hc] at hc'
    rw [hx, hy, slV_inj (Option.some.inj hc')]
  · rw [List.getElem?_eq_none (by omega), List.getElem?_eq_none (by omega)]
theorem TLst.each {w : World} {A : Option Addr} {n : Nat} {cs : List (List UInt8)} {vs : List Sl} (h : TLst w A n cs) (hr : Rd w 1 A n (vs.map slV)) (k : Nat) (v : Sl) (c : List UInt8) (hv : vs[k]? = some v) (hc : cs[k]? = some c) : TRd w 5 1 v.a v.n (c.map byteV) := by
  obtain ⟨us, h1, _, h3⟩ := h
  obtain rfl := hr.uniq h1.1
  exact (h3 k v c hv hc).1

set_option maxRecDepth 100000 in
set_option maxHeartbeats 4000000 in
theorem Take_typed (tr : Sum32) (A : Option Addr) (n c : Nat) (h : List (List UInt8)) (i : Int) (D : Option Addr) (dl dc : Nat) (d : List UInt8) (P : Option Addr) (pl pc : Nat) (p : List Sum32) (w : World) (hg : Globs w) (hL : Lst w A n h) (hn : n ≤ 1000) (hD : Rd w 1 D dl (d.map byteV)) (hdl : dl ≤ 1000000) (hP : Rd w 32 P pl (p.flatMap sumC)) (hpc : pl ≤ pc) (hi : -1000000 ≤ i ∧ i ≤ 1000000) :
    Calls Tryd.prog 22 #[.agg (fetchC tr A n c).toArray, .int .i64 i, .slice D dl dc, .slice P pl pc] w fun e w' => ∃ A' c', e = .returned (.tuple #[.agg (fetchC tr A' n c').toArray, .int .i64 (takeE tr h i d p)]) ∧ Lst w' A' n (takeH tr h i d p) ∧ (TLst w A n h → TLst w' A' n (takeH tr h i d p)) ∧ Below w.heap.size w w' := by
  obtain ⟨i35, hi35, hz35, hs35, hy35⟩ := info_parts info35
  obtain ⟨d35, hd35, hrow35⟩ := und35
  have hl := hL.len
  have hdd := hD.len1
  have hB : Below w.heap.size w ((w.alloc (.cells (fetchC tr A n c).toArray 35)).alloc (.cells (fetchC z32 none 0 0).toArray 35)) := ((Below.refl _ _).alloc (Nat.le_refl _) _).alloc (by simp) _
  have hF : Blk ((w.alloc (.cells (fetchC tr A n c).toArray 35)).alloc (.cells (fetchC z32 none 0 0).toArray 35)) w.heap.size 35 (fetchC tr A n c).toArray := (Blk.new _ _ _).alloc _
  have hZ : Blk ((w.alloc (.cells (fetchC tr A n c).toArray 35)).alloc (.cells (fetchC z32 none 0 0).toArray 35)) (w.heap.size + 1) 35 (fetchC z32 none 0 0).toArray := by
    have := Blk.new (w.alloc (.cells (fetchC tr A n c).toArray 35)) 35 (fetchC z32 none 0 0).toArray
    rwa [World.size_alloc] at this
  obtain ⟨E, hE⟩ : ∃ E, E = takeE tr h i d p := ⟨_, rfl⟩
  obtain ⟨H, hH⟩ : ∃ H, H = takeH tr h i d p := ⟨_, rfl⟩
  rw [← hE, ← hH]
  have HE := Lib.hid hE
  have HH := Lib.hid hH
  clear hE hH
  go_enter Tryd.func22, Tryd.ntmps22
  go_upto_region 1 with (refine wpList_alloc0 rfl 35 rfl (fetchC z32 none 0 0).toArray _ i35 hi35 hz35 rfl ?_; simp only [Act.put, List.setIfInBounds_toArray, List.set_cons_succ, List.set_cons_zero, World.size_alloc])
  obtain ⟨w1, hw1⟩ : ∃ w1, w1 = (w.alloc (.cells (fetchC tr A n c).toArray 35)).alloc (.cells (fetchC z32 none 0 0).toArray 35) := ⟨_, rfl⟩
  rw [← hw1] at hB hF hZ ⊢
  clear hw1
  have c32 : w1.cell? ⟨w.heap.size, 32, none⟩ = some (.slice A n c) := by rw [hF.cell]; exact fetchC_have _ _ _ _
  have hs1 := hZ.lt
  have HB := Lib.hid hB
  have HF := Lib.hid hF
  have HZ := Lib.hid hZ
  have HL0 := Lib.hid hL
  have HL := Lib.hid (hL.below hB)
  have HD := Lib.hid (hD.below hB)
  have HP := Lib.hid (hP.below hB)
  have Hg := Lib.hid (hg.below hB)
  clear hB hF hZ hL hD hP hg
  go_upto_region 2 with fail
  obtain ⟨B0, hB0⟩ : ∃ B0 : Bool, B0 = decide (i < 0 ∨ (n : Int) ≤ i ∨ properB dl i n = false) := ⟨_, rfl⟩
  go_cut [15] from 16 to 29 (fun t15 wx => t15 = .bool B0 ∧ wx = w1)
  case first =>
    by_cases h0 : i < 0
    · have hb : B0 = true := by rw [hB0]; exact decide_eq_true (.inl h0)
      have Hb := Lib.hid hb
      clear hb hB0
      go_wp2_with fail
      go_meet
      exact ⟨by rw [Hb.out], rfl⟩
    · by_cases h1 : (n : Int) ≤ i
      · have hb : B0 = true := by rw [hB0]; exact decide_eq_true (.inr (.inl h1))
        have Hb := Lib.hid hb
        clear hb hB0
        go_wp2_with fail
        go_meet
        exact ⟨by rw [Hb.out], rfl⟩
      · have hb : B0 = !(properB dl i n) := by
          rw [hB0]
          cases properB dl i n
          · exact decide_eq_true (.inr (.inr rfl))
          · exact decide_eq_false (by rintro (h | h | h) <;> first | omega | cases h)
        have Hb := Lib.hid hb
        have Hp := Lib.hid (proper_any D dl dc i n (by omega) (by omega) w1)
        clear hb hB0
        go_wp2_with fail
        refine Hp.out.mono ?_
        rintro e w2 ⟨rfl, rfl⟩
        go_wp2_with fail
        go_meet
        exact ⟨by rw [Hb.out], rfl⟩
  case rest =>
    obtain ⟨rfl, hwc⟩ := hcut
    subst hwc
    cases hc : B0 with
    | true =>
      rw [hc] at hB0
      have hv : E = 280 := by
        rw [HE.out]; unfold takeE
        rw [if_pos (by rw [hl, hdd]; exact of_decide_eq_true hB0.symm)]
      have hh : H = h := by rw [HH.out]; unfold takeH; rw [if_neg (fun q => by rw [← HE.out, hv] at q; exact absurd q.1 (by decide))]
      have Hv := Lib.hid hv
      have Hh := Lib.hid hh
      clear hv hh hB0 hc c32
      go_wp2_with (first | (refine wpList_load_mid rfl 35 (.tmp 4) rfl w.heap.size 0 rfl (fetchC tr A n c) _ (fetch_range HF.out) hd35 hrow35 (by rw [fetchC_len]; kernel_rfl) ?_) | (refine wpList_store_row rfl 35 (.tmp 8) (.tmp 30) rfl (w.heap.size + 1) (fetchC tr A n c).toArray rfl rfl 35 (fetchC z32 none 0 0).toArray HZ.out (size35 _ (by simp [fetchC_len])) (by simp [fetchC_len]) (fetch_one _ _ _ _) ?_))
      refine bodyPost_ret (results_row_tmp rfl _ _ (w.heap.size + 1) 35 (fetchC tr A n c).toArray (0, 0) _ rfl (setRow_heap _ _ _ _ _ _ HZ.out) hd35 hrow35 (size35 _ (by simp [fetchC_len]))) rfl ⟨A, c, by rw [Hv.out]; rfl, ?_, fun hT => ?_, Below.setRow HB.out (by omega) _⟩
      · rw [Hh.out]; exact HL0.out.below (Below.setRow HB.out (by omega) _)
      · rw [Hh.out]; exact hT.below (Below.setRow HB.out (by omega) _)
    | false =>
      rw [hc] at hB0
      have hnb : ¬ (i < 0 ∨ (n : Int) ≤ i ∨ properB dl i n = false) := of_decide_eq_false hB0.symm
      clear hB0 hc
      obtain ⟨k, rfl⟩ : ∃ k : Nat, i = (k : Int) := ⟨i.toNat, by omega⟩
      have hkn : k < n := by omega
      have hpr : properB dl (k : Int) n = true := by
        cases hq : properB dl (k : Int) n with
        | true => rfl
        | false => exact absurd (.inr (.inr hq)) hnb
      have hdpos : dl ≠ 0 := fun e => by
        rw [e] at hpr
        unfold properB at hpr
        split at hpr <;> simp at hpr
      have hEv : E = if chkL n k (leafS d) p = some tr then 0 else 150 := by
        rw [HE.out]; unfold takeE
        rw [hl, hdd, if_neg hnb, Int.toNat_natCast]
      have hck := Check_any tr n k D P dl dc pl pc d p hkn (by omega) wc Hg.out HD.out (by omega) HP.out hpc
      have hrt := fetchC_tree HF.out
      have Hck := Lib.hid hck
      have Hrt := Lib.hid hrt
      have HEv := Lib.hid hEv
      clear hck hrt hEv hnb
      by_cases hacc : chkL n k (leafS d) p = some tr
      · have hck := Hck.out
        rw [decide_eq_true hacc] at hck
        have Hck2 := Lib.hid hck
        have hv : E = 0 := by rw [HEv.out, if_pos hacc]
        have Hv := Lib.hid hv
        clear hck hv Hck HEv hacc
        go_wp2_with (refine wpList_load_mid rfl 33 (.tmp 32) rfl w.heap.size 0 rfl (sumC tr) _ Hrt.out und32 rfl (by rw [sumC_len]; kernel_rfl) ?_)
        refine Hck2.out.mono ?_
        rintro e w2 ⟨rfl, hb2⟩
        have hs2 := hb2.size
        have c32b := (hb2.cell (World.block_lt_of_cell? wc _ c32)).trans c32
        have HF2 := Lib.hid (HF.out.below hb2 HF.out.lt)
        have HZ2 := Lib.hid (HZ.out.below hb2 HZ.out.lt)
        have HL2 := Lib.hid (HL.out.below hb2)
        have HD2 := Lib.hid (HD.out.below hb2)
        have HB2 := Lib.hid (HB.out.trans (hb2.mono HB.out.size))
        clear hb2 c32 Hck2 Hrt
        obtain ⟨bL, oL, v, x, rfl, hx, cc, hrx, hvc⟩ := HL2.out.at_ hkn
        have hvn := hrx.len1
        have hvl := hrx.le
        have hgd : h.getD k [] = x := by rw [List.getD_eq_getElem?_getD, hx]; rfl
        by_cases hv0 : v.n = 0
        · have hxe : x = [] := List.eq_nil_of_length_eq_zero (by omega)
          have hh : H = h.set k d := by
            rw [HH.out]; unfold takeH
            rw [if_pos ⟨by rw [← HE.out]; exact Hv.out, by rw [Int.toNat_natCast, hgd, hxe]; rfl⟩, Int.toNat_natCast]
          have Hh := Lib.hid hh
          have hd0 : decide (0 < v.n) = false := decide_eq_false (by omega)
          have hd1 : decide ((0 : Int) < (v.n : Int)) = false := decide_eq_false (by omega)
          clear hh hrx hx hgd hxe hvn
          obtain ⟨vs, hrv0, hlv, helv⟩ := HL0.out
          have hrv := hrv0.below HB2.out
          have Hrv := Lib.hid hrv
          have Hrv0 := Lib.hid hrv0
          have Hel := Lib.hid helv
          have Hlv := Lib.hid hlv
          have hcl : ∀ W, Below w2.heap.size w2 W → Calls Tryd.prog 42 #[.slice (some ⟨bL, oL, none⟩) n c] W fun e w' => ∃ v, e = .returned v ∧ App w' W.heap.size 22 v n (vs.map slV) ∧ Below W.heap.size W w' := fun W hW => CloneL_any _ n c vs W (Hrv.out.below hW) (by omega)
          have hrt2 : ∀ w', Ext w2 w' → w'.rangeAt w.heap.size 0 (sumC tr) := fun w' hw' => fetchC_tree (HF2.out.below (ext_below hw') HF2.out.lt)
          have c32r := cell_regrown c32b
          have Hcl := Lib.hid hcl
          have Hrt2 := Lib.hid hrt2
          clear hrv hrv0 hlv helv hcl hrt2
          go_upto_region 8 with fail
          clear c32b cc
          go_cut [11] from 50 to 55 (fun t11 wx => ∃ (B : Nat) (A' : Option Addr) (c' : Nat), t11 = .pointer (some ⟨B, 0, none⟩) ∧ w2.heap.size ≤ B ∧ Blk wx B 35 (fetchC tr A' n c').toArray ∧ wx.ownsRow w2.heap.size 22 1 (.slice A' n c') n (vs.map slV) ∧ Below w2.heap.size w2 wx ∧ n ≤ c')
          case first =>
            refine wp_region_reads_tail 7 [0, 1, 2, 3] 3 (by kernel_rfl) (List.take_append_drop _ _) rfl (by kernel_rfl) (by kernel_rfl) (by kernel_rfl) (by decide) (by kernel_rfl) (by kernel_rfl) (fun _ _ d _ _ h => by cases d <;> exact h) (by kernel_rfl) (by kernel_rfl) rfl ?_
            simp only [List.take_succ_cons, List.take_zero, List.drop_succ_cons, List.drop_zero, pickOps, List.getElem?_cons_zero, List.getElem?_cons_succ]
            repeat (first | go_big_quiet_step (fail) | (refine wpQuiet_load_mid rfl 33 _ rfl w.heap.size 0 rfl (sumC tr) _ Hrt2.out und32 rfl (by rw [sumC_len]; kernel_rfl) ?_; simp only [Act.put, List.setIfInBounds_toArray, List.set_cons_succ, List.set_cons_zero]))
            refine wpQuiet_nil ?_
            have hdr : Below w2.heap.size w2 w2.drew := (Below.refl _ w2).drew
            refine wpAnyH_two (i := 4) (j := 6) (by kernel_rfl) rfl rfl ?_ ?_
            · intro K hK
              go_simp
              refine (Hcl.out w2.drew hdr).mono ?_
              rintro e W5 ⟨v5, rfl, ha5, hbc5⟩
              obtain ⟨A5, c5, rfl, hc5, hO5⟩ := ha5.own (by omega)
              have hb5 : Below w2.heap.size w2 W5 := hdr.trans hbc5
              have HO5 := Lib.hid hO5
              refine hK _ _ (ext_of hb5) ?_
              clear hK K ha5 hO5 hbc5
              refine wpAnyH_two (i := 5) (j := 6) (by kernel_rfl) rfl rfl ?_ ?_
              · intro K hK
                refine step_build2 rfl 35 0 1 (.tmp 51) (.tmp 54) rfl (.agg (sumC tr).toArray) (.slice A5 n c5) rfl rfl _ (built35 tr A5 n c5) ?_
                refine hK _ _ (ext_of hb5) ?_
                clear hK K
                refine wpAnyH_one (i := 6) (by kernel_rfl) rfl ?_
                intro K hK
                refine step_alloc0 rfl 35 rfl (fetchC z32 none 0 0).toArray _ i35 hi35 hz35 rfl ?_
                have hb6 := hb5.alloc hb5.size (.cells (fetchC z32 none 0 0).toArray 35)
                refine hK _ _ (ext_of hb6) ?_
                clear hK K
                have hZr : Blk (W5.alloc (.cells (fetchC z32 none 0 0).toArray 35)) W5.heap.size 35 (fetchC z32 none 0 0).toArray := Blk.new _ _ _
                have hOr := HO5.out.alloc (.cells (fetchC z32 none 0 0).toArray 35)
                refine wpAnyH_done (by kernel_rfl) ?_ _
                simp only [Exit.then]
                obtain ⟨hf1, hf2, hf3⟩ := after_store hZr hOr (by omega) (by decide) hb6 hb5.size (fetchC tr A5 n c5).toArray
                refine wpList_store_row rfl 35 (.tmp 11) (.tmp 55) rfl _ (fetchC tr A5 n c5).toArray rfl rfl 35 (fetchC z32 none 0 0).toArray hZr (size35 _ (by simp [fetchC_len])) (by simp [fetchC_len]) (fetch_one _ _ _ _) ?_
                refine wpList_nil ?_
                simp only [Act.put, List.setIfInBounds_toArray, List.set_cons_succ, List.set_cons_zero]
                have Hf1 := Lib.hid hf1
                have Hf2 := Lib.hid hf2
                have Hf3 := Lib.hid hf3
                clear hf1 hf2 hf3 hZr hOr
                go_wp2_with fail
                go_meet
                exact ⟨_, A5, c5, rfl, hb5.size, Hf1.out, Hf2.out, Hf3.out, hc5⟩
              · intro K hK
                refine step_alloc0 rfl 35 rfl (fetchC z32 none 0 0).toArray _ i35 hi35 hz35 rfl ?_
                have hb6 := hb5.alloc hb5.size (.cells (fetchC z32 none 0 0).toArray 35)
                refine hK _ _ (ext_of hb6) ?_
                clear hK K
                refine wpAnyH_one (i := 5) (by kernel_rfl) rfl ?_
                intro K hK
                refine step_build2 rfl 35 0 1 (.tmp 51) (.tmp 54) rfl (.agg (sumC tr).toArray) (.slice A5 n c5) rfl rfl _ (built35 tr A5 n c5) ?_
                refine hK _ _ (ext_of hb6) ?_
                clear hK K
                have hZr : Blk (W5.alloc (.cells (fetchC z32 none 0 0).toArray 35)) W5.heap.size 35 (fetchC z32 none 0 0).toArray := Blk.new _ _ _
                have hOr := HO5.out.alloc (.cells (fetchC z32 none 0 0).toArray 35)
                refine wpAnyH_done (by kernel_rfl) ?_ _
                simp only [Exit.then]
                obtain ⟨hf1, hf2, hf3⟩ := after_store hZr hOr (by omega) (by decide) hb6 hb5.size (fetchC tr A5 n c5).toArray
                refine wpList_store_row rfl 35 (.tmp 11) (.tmp 55) rfl _ (fetchC tr A5 n c5).toArray rfl rfl 35 (fetchC z32 none 0 0).toArray hZr (size35 _ (by simp [fetchC_len])) (by simp [fetchC_len]) (fetch_one _ _ _ _) ?_
                refine wpList_nil ?_
                simp only [Act.put, List.setIfInBounds_toArray, List.set_cons_succ, List.set_cons_zero]
                have Hf1 := Lib.hid hf1
                have Hf2 := Lib.hid hf2
                have Hf3 := Lib.hid hf3
                clear hf1 hf2 hf3 hZr hOr
                go_wp2_with fail
                go_meet
                exact ⟨_, A5, c5, rfl, hb5.size, Hf1.out, Hf2.out, Hf3.out, hc5⟩
            · intro K hK
              refine step_alloc0 rfl 35 rfl (fetchC z32 none 0 0).toArray _ i35 hi35 hz35 rfl ?_
              have hb6 : Below w2.heap.size w2 (w2.drew.alloc (.cells (fetchC z32 none 0 0).toArray 35)) := hdr.alloc (Nat.le_refl _) _
              have hZ6 : Blk (w2.drew.alloc (.cells (fetchC z32 none 0 0).toArray 35)) w2.heap.size 35 (fetchC z32 none 0 0).toArray := Blk.new w2.drew _ _
              refine hK _ _ (ext_of hb6) ?_
              clear hK K
              generalize hw6 : w2.drew.alloc (.cells (fetchC z32 none 0 0).toArray 35) = w6 at *
              rw [show w2.drew.heap.size = w2.heap.size from rfl]
              have HZ6 := Lib.hid hZ6
              clear hw6 hZ6
              refine wpAnyH_one (i := 4) (by kernel_rfl) rfl ?_
              intro K hK
              go_simp
              refine (Hcl.out w6 hb6).mono ?_
              rintro e W5 ⟨v5, rfl, ha5, hbc5⟩
              obtain ⟨A5, c5, rfl, hc5, hO5⟩ := ha5.own (by omega)
              have hb5 : Below w2.heap.size w2 W5 := hb6.trans (hbc5.mono hb6.size)
              have hOr := hO5.mono hb6.size
              have hZr := HZ6.out.below hbc5 HZ6.out.lt
              refine hK _ _ (ext_of hb5) ?_
              clear hK K ha5 hO5 hbc5
              refine wpAnyH_one (i := 5) (by kernel_rfl) rfl ?_
              intro K hK
              refine step_build2 rfl 35 0 1 (.tmp 51) (.tmp 54) rfl (.agg (sumC tr).toArray) (.slice A5 n c5) rfl rfl _ (built35 tr A5 n c5) ?_
              refine hK _ _ (ext_of hb5) ?_
              clear hK K
              refine wpAnyH_done (by kernel_rfl) ?_ _
              simp only [Exit.then]
              obtain ⟨hf1, hf2, hf3⟩ := after_store hZr hOr (by omega) (by decide) hb5 (Nat.le_refl _) (fetchC tr A5 n c5).toArray
              refine wpList_store_row rfl 35 (.tmp 11) (.tmp 55) rfl _ (fetchC tr A5 n c5).toArray rfl rfl 35 (fetchC z32 none 0 0).toArray hZr (size35 _ (by simp [fetchC_len])) (by simp [fetchC_len]) (fetch_one _ _ _ _) ?_
              refine wpList_nil ?_
              simp only [Act.put, List.setIfInBounds_toArray, List.set_cons_succ, List.set_cons_zero]
              have Hf1 := Lib.hid hf1
              have Hf2 := Lib.hid hf2
              have Hf3 := Lib.hid hf3
              clear hf1 hf2 hf3 hZr hOr
              go_wp2_with fail
              go_meet
              exact ⟨_, A5, c5, rfl, (Nat.le_refl _), Hf1.out, Hf2.out, Hf3.out, hc5⟩
          case rest =>
            obtain ⟨B, A', c', rfl, hwB, hBf, hO, hb3, hnc'⟩ := hcut
            clear c32r Hcl Hrt2
            obtain ⟨g, rfl⟩ : ∃ g, A' = some ⟨g, 0, none⟩ := by
              rcases hO.2 with ⟨_, h0⟩ | ⟨g, _, _, hv, _⟩
              · omega
              · cases hv; exact ⟨g, rfl⟩
            obtain ⟨cur, hcur⟩ := ownsRow_blk hO
            obtain ⟨bq, oq, vq, eq, hvq, hcq⟩ := (Rd.of_own hO).at_ hkn
            cases eq
            rw [Nat.zero_add] at hcq
            have e32 : wc.cell? ⟨B, 32, none⟩ = some (.slice (some ⟨g, 0, none⟩) n c') := by rw [hBf.cell]; exact fetchC_have _ _ _ _
            have e32r := cell_regrown e32
            have hgB : g ≠ B := hcur.ne hBf (by decide)
            have hcl : ∀ W, Below wc.heap.size wc W → Calls Tryd.prog 43 #[.slice D dl dc] W fun e w' => ∃ v, e = .returned v ∧ App w' W.heap.size 5 v dl (d.map byteV) ∧ Below W.heap.size W w' := fun W hW => Clone_any D dl dc d W ((HD2.out.below hb3).below hW) (by omega)
            have hZ3 := HZ2.out.below hb3 (by have := HB2.out.size; omega)
            have Hcl := Lib.hid hcl
            have HZ3 := Lib.hid hZ3
            have HO := Lib.hid hO
            have HBf := Lib.hid hBf
            have Hcur := Lib.hid hcur
            have Hb3 := Lib.hid hb3
            have Hcq := Lib.hid hcq
            have hgw := hcur.lt
            have hBw := hBf.lt
            have hZw := hZ3.lt
            clear hcl hZ3 hO hBf hcur hb3 e32 hcq
            go_upto_region 9 with fail
            refine wp_region_reads_tail 5 [0, 1, 2, 3] 1 (by kernel_rfl) (List.take_append_drop _ _) rfl (by kernel_rfl) (by kernel_rfl) (by kernel_rfl) (by decide) (by kernel_rfl) (by kernel_rfl) (fun _ _ d _ _ h => by cases d <;> exact h) (by kernel_rfl) (by kernel_rfl) rfl ?_
            simp only [List.take_succ_cons, List.take_zero, List.drop_succ_cons, List.drop_zero, pickOps, List.getElem?_cons_zero, List.getElem?_cons_succ]
            repeat (go_big_quiet_step (fail))
            refine wpQuiet_nil ?_
            refine wpAnyH_one (i := 4) (by kernel_rfl) rfl ?_
            intro K hK
            go_simp
            have hdr : Below wc.heap.size wc wc.drew := (Below.refl _ wc).drew
            refine (Hcl.out wc.drew hdr).mono ?_
            rintro e W5 ⟨v5, rfl, ha5, hbc5⟩
            have hb5 : Below wc.heap.size wc W5 := hdr.trans hbc5
            refine hK _ _ (ext_of hb5) ?_
            clear hK K
            refine wpAnyH_done (by kernel_rfl) ?_ _
            simp only [Exit.then]
            obtain ⟨Ad, cd, rfl, hcd, htd⟩ := ha5.trd
            have hcur5 := Hcur.out.below hb5 hgw
            have hO5 : W5.ownsRow w2.heap.size 22 1 (.slice (some ⟨g, 0, none⟩) n c') n (vs.map slV) := HO.out.kept (⟨hb5.os, hb5.tape, hb5.output, hb5.size, fun q hq _ => hb5.block q hq⟩ : wc.grownBy W5 none) (.inr (fun e => by cases e))
            have hc5 := (hb5.cell (World.block_lt_of_cell? wc _ Hcq.out)).trans Hcq.out
            have hc5' : W5.cell? ⟨g, k, none⟩ = some (.slice vq.a vq.n vq.c) := hc5
            have hfr := hcur5.frozen k
            have hset := ownsRow_set hO5 (g := g) rfl k (slV ⟨Ad, dl, cd⟩)
            rw [← List.map_set] at hset
            have hK1 := (KeptIn.refl (fun q => q ≠ g) W5).setAt (p := ⟨g, k, none⟩) (fun h => h rfl) (slV ⟨Ad, dl, cd⟩)
            have hBf6 := (HBf.out.below hb5 hBw).keptIn hK1 (fun e => hgB e.symm)
            have hZ6 := (HZ3.out.below hb5 hZw).keptIn hK1 (fun e => (hcur5.ne (HZ3.out.below hb5 hZw) (by decide)) e.symm)
            have htd6 := htd.kept hcur5 (by decide) hK1
            have hwg : w.heap.size ≤ g := by have := (hO5.lt g rfl).1; have := HB2.out.size; omega
            have hB6 : Below w.heap.size w (W5.setCell ⟨g, k, none⟩ (slV ⟨Ad, dl, cd⟩)) := (HB2.out.trans ((Hb3.out.trans (hb5.mono Hb3.out.size)).mono HB2.out.size)).setCell hwg _
            have hF6 := (HF2.out.below Hb3.out HF2.out.lt)
            have Hset := Lib.hid hset
            have HBf6 := Lib.hid hBf6
            have HZ6 := Lib.hid hZ6
            have Htd6 := Lib.hid htd6
            have HB6 := Lib.hid hB6
            clear hset hBf6 hZ6 htd6 hB6 hF6 hK1 hO5 hcur5 hc5 htd ha5 hbc5 hb5 hdr e32r Hcl HO HBf Hcur Hcq HZ3
            go_upto_region 10 with fail
            obtain ⟨wf, hwf⟩ : ∃ wf, wf = W5.setCell ⟨g, k, none⟩ (slV ⟨Ad, dl, cd⟩) := ⟨_, rfl⟩
            rw [show W5.setCell ⟨g, k, none⟩ (.slice Ad dl cd) = wf from hwf.symm]
            rw [← hwf] at Hset HBf6 HZ6 Htd6 HB6
            clear hwf
            have hst := after_store HZ6.out Hset.out (by omega) (by decide) HB6.out (show w.heap.size ≤ w.heap.size + 1 by omega) (fetchC tr (some ⟨g, 0, none⟩) n c').toArray
            have hKf := (KeptIn.refl (fun q => q ≠ w.heap.size + 1) wf).setRow (g := w.heap.size + 1) (fun h => h rfl) (fetchC tr (some ⟨g, 0, none⟩) n c').toArray
            have htdf := Htd6.out.kept HZ6.out (by decide) hKf
            have Hst := Lib.hid hst
            have Htdf := Lib.hid htdf
            clear hst hKf htdf hc5' hfr
            go_wp2_with (first | (refine wpList_load_mid rfl 35 (.tmp 11) rfl B 0 rfl (fetchC tr (some ⟨g, 0, none⟩) n c') _ (fetch_range HBf6.out) hd35 hrow35 (by rw [fetchC_len]; kernel_rfl) ?_) | (refine wpList_store_row rfl 35 (.tmp 8) (.tmp 62) rfl (w.heap.size + 1) (fetchC tr (some ⟨g, 0, none⟩) n c').toArray rfl rfl 35 (fetchC z32 none 0 0).toArray HZ6.out (size35 _ (by simp [fetchC_len])) (by simp [fetchC_len]) (fetch_one _ _ _ _) ?_))
            refine bodyPost_ret (results_row_tmp rfl _ _ (w.heap.size + 1) 35 (fetchC tr (some ⟨g, 0, none⟩) n c').toArray (0, 0) _ rfl (setRow_heap _ _ _ _ _ _ HZ6.out) hd35 hrow35 (size35 _ (by simp [fetchC_len]))) rfl ⟨some ⟨g, 0, none⟩, c', by rw [Hv.out]; rfl, ?_, fun hT => ?_, Hst.out.2.2⟩
            · rw [Hh.out]
              refine ⟨vs.set k ⟨Ad, dl, cd⟩, Rd.of_own Hst.out.2.1, by rw [List.length_set]; exact Hlv.out, fun q u x hu hx => ?_⟩
              by_cases hkq : k = q
              · subst hkq
                rw [List.getElem?_set_self (by have := (List.getElem?_eq_some_iff.1 hu).1; simpa using this)] at hu
                rw [List.getElem?_set_self (by have := (List.getElem?_eq_some_iff.1 hx).1; simpa using this)] at hx
                cases hu; cases hx
                exact ⟨Htdf.out.1, hcd⟩
              · rw [List.getElem?_set_ne hkq] at hu hx
                exact ⟨(Hel.out q u x hu hx).1.below Hst.out.2.2, (Hel.out q u x hu hx).2⟩
            · rw [Hh.out]
              refine ⟨vs.set k ⟨Ad, dl, cd⟩, TRd.of_own Hst.out.2.1, by rw [List.length_set]; exact Hlv.out, fun q u x hu hx => ?_⟩
              by_cases hkq : k = q
              · subst hkq
                rw [List.getElem?_set_self (by have := (List.getElem?_eq_some_iff.1 hu).1; simpa using this)] at hu
                rw [List.getElem?_set_self (by have := (List.getElem?_eq_some_iff.1 hx).1; simpa using this)] at hx
                cases hu; cases hx
                exact ⟨Htdf.out, hcd⟩
              · rw [List.getElem?_set_ne hkq] at hu hx
                exact ⟨(hT.each Hrv0.out q u x hu hx).below Hst.out.2.2, (Hel.out q u x hu hx).2⟩
        · have hh : H = h := by
            rw [HH.out]; unfold takeH
            rw [if_neg (fun q => by
              have := q.2
              rw [Int.toNat_natCast, hgd] at this
              cases x with
              | nil => exact hv0 (by simpa using hvn.symm)
              | cons a t => cases this)]
          have Hh := Lib.hid hh
          have hd0 : decide (0 < v.n) = true := decide_eq_true (by omega)
          have hd1 : decide ((0 : Int) < (v.n : Int)) = true := decide_eq_true (by omega)
          clear hh hrx hx hgd hvn
          go_wp2_with (first | (refine wpList_load_mid rfl 35 (.tmp 4) rfl w.heap.size 0 rfl (fetchC tr (some ⟨bL, oL, none⟩) n c) _ (fetch_range HF2.out) hd35 hrow35 (by rw [fetchC_len]; kernel_rfl) ?_) | (refine wpList_store_row rfl 35 (.tmp 8) (.tmp 49) rfl (w.heap.size + 1) (fetchC tr (some ⟨bL, oL, none⟩) n c).toArray rfl rfl 35 (fetchC z32 none 0 0).toArray HZ2.out (size35 _ (by simp [fetchC_len])) (by simp [fetchC_len]) (fetch_one _ _ _ _) ?_))
          refine bodyPost_ret (results_row_tmp rfl _ _ (w.heap.size + 1) 35 (fetchC tr (some ⟨bL, oL, none⟩) n c).toArray (0, 0) _ rfl (setRow_heap _ _ _ _ _ _ HZ2.out) hd35 hrow35 (size35 _ (by simp [fetchC_len]))) rfl ⟨some ⟨bL, oL, none⟩, c, by rw [Hv.out]; rfl, ?_, fun hT => ?_, Below.setRow HB2.out (by omega) _⟩
          · rw [Hh.out]; exact HL0.out.below (Below.setRow HB2.out (by omega) _)
          · rw [Hh.out]; exact hT.below (Below.setRow HB2.out (by omega) _)
      · have hck := Hck.out
        rw [decide_eq_false hacc] at hck
        have Hck2 := Lib.hid hck
        have hv : E = 150 := by rw [HEv.out, if_neg hacc]
        have hh : H = h := by rw [HH.out]; unfold takeH; rw [if_neg (fun q => by rw [← HE.out, hv] at q; exact absurd q.1 (by decide))]
        have Hv := Lib.hid hv
        have Hh := Lib.hid hh
        clear hck hv hh Hck HEv hacc
        go_wp2_with (refine wpList_load_mid rfl 33 (.tmp 32) rfl w.heap.size 0 rfl (sumC tr) _ Hrt.out und32 rfl (by rw [sumC_len]; kernel_rfl) ?_)
        refine Hck2.out.mono ?_
        rintro e w2 ⟨rfl, hb2⟩
        have HF2 := Lib.hid (HF.out.below hb2 HF.out.lt)
        have HZ2 := Lib.hid (HZ.out.below hb2 HZ.out.lt)
        have HB2 := Lib.hid (HB.out.trans (hb2.mono HB.out.size))
        clear hb2 c32 Hck2 Hrt
        go_wp2_with (first | (refine wpList_load_mid rfl 35 (.tmp 4) rfl w.heap.size 0 rfl (fetchC tr A n c) _ (fetch_range HF2.out) hd35 hrow35 (by rw [fetchC_len]; kernel_rfl) ?_) | (refine wpList_store_row rfl 35 (.tmp 8) (.tmp 40) rfl (w.heap.size + 1) (fetchC tr A n c).toArray rfl rfl 35 (fetchC z32 none 0 0).toArray HZ2.out (size35 _ (by simp [fetchC_len])) (by simp [fetchC_len]) (fetch_one _ _ _ _) ?_))
        refine bodyPost_ret (results_row_tmp rfl _ _ (w.heap.size + 1) 35 (fetchC tr A n c).toArray (0, 0) _ rfl (setRow_heap _ _ _ _ _ _ HZ2.out) hd35 hrow35 (size35 _ (by simp [fetchC_len]))) rfl ⟨A, c, by rw [Hv.out]; rfl, ?_, fun hT => ?_, Below.setRow HB2.out (by omega) _⟩
        · rw [Hh.out]; exact HL0.out.below (Below.setRow HB2.out (by omega) _)
        · rw [Hh.out]; exact hT.below (Below.setRow HB2.out (by omega) _)
theorem Take_any (tr : Sum32) (A : Option Addr) (n c : Nat) (h : List (List UInt8)) (i : Int) (D : Option Addr) (dl dc : Nat) (d : List UInt8) (P : Option Addr) (pl pc : Nat) (p : List Sum32) (w : World) (hg : Globs w) (hL : Lst w A n h) (hn : n ≤ 1000) (hD : Rd w 1 D dl (d.map byteV)) (hdl : dl ≤ 1000000) (hP : Rd w 32 P pl (p.flatMap sumC)) (hpc : pl ≤ pc) (hi : -1000000 ≤ i ∧ i ≤ 1000000) :
    Calls Tryd.prog 22 #[.agg (fetchC tr A n c).toArray, .int .i64 i, .slice D dl dc, .slice P pl pc] w fun e w' => ∃ A' c', e = .returned (.tuple #[.agg (fetchC tr A' n c').toArray, .int .i64 (takeE tr h i d p)]) ∧ Lst w' A' n (takeH tr h i d p) ∧ Below w.heap.size w w' :=
  (Take_typed tr A n c h i D dl dc d P pl pc p w hg hL hn hD hdl hP hpc hi).mono fun _ _ ⟨A', c', h1, h2, _, h3⟩ => ⟨A', c', h1, h2, h3⟩
end Go.Proofs.YthlecmmngldodaaDoor
