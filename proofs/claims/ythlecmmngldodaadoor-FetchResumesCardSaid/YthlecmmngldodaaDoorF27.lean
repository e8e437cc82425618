/- The law FetchResumes. -/
import Derived.Test.YthlecmmngldodaaDoorF26
namespace Go.Proofs.YthlecmmngldodaaDoor
open Go.RowKit Go.Sort

/-- The reference's Check, at any place. -/
theorem RCheck_all (rt : Sum32) (n : Nat) (i : Int) (A B : Option Addr) (len cap m c : Nat) (bs : List UInt8) (p : List Sum32) (hn : n ≤ 1000) (w : World) (hr : Rd w 1 A len (bs.map byteV)) (hlen : len ≤ 8796093021000) (hp : Rd w 32 B m (p.flatMap sumC)) :
    Calls Tryd.prog 31 #[.agg (sumC rt).toArray, .agg (claimV n i A len cap B m c)] w fun e w' => e = .returned (.bool (decide ((0 ≤ i ∧ i < (n : Int)) ∧ chkL n i.toNat (leafS bs) p = some rt))) ∧ Below w.heap.size w w' := by
  by_cases hi : 0 ≤ i ∧ i < (n : Int)
  · obtain ⟨k, rfl⟩ : ∃ k : Nat, i = (k : Int) := ⟨i.toNat, by omega⟩
    have := RCheck_any rt n k A B len cap m c bs p (by omega) hn w hr hlen hp
    rw [show decide ((0 ≤ (k : Int) ∧ (k : Int) < (n : Int)) ∧ chkL n (k : Int).toNat (leafS bs) p = some rt) = decide (chkL n k (leafS bs) p = some rt) from by
      rw [Int.toNat_natCast]; exact decide_eq_decide.2 ⟨fun h => h.2, fun h => ⟨hi, h⟩⟩]
    exact this
  · rw [decide_eq_false (fun h => hi h.1)]
    exact RCheck_bad rt n i A B len cap m c (by omega) w
theorem takeE_right {tr : Sum32} {h : List (List UInt8)} {i : Int} {d : List UInt8} {p : List Sum32} (he : takeE tr h i d p = 0) : (0 ≤ i ∧ i < (h.length : Int)) ∧ chkL h.length i.toNat (leafS d) p = some tr := by
  unfold takeE at he
  split at he
  · cases he
  · rename_i hn
    split at he
    · rename_i hc
      exact ⟨by omega, hc⟩
    · cases he
theorem Pfs.at {w : World} {base : Nat} {ks : List Ck} {X : List UInt8} (h : Pfs w base ks (cutL X)) {q : Nat} {y : Ck} (hy : ks[q]? = some y) (hq : q < (X.length + 1023) / 1024) (hX : X.length ≤ 4000) :
    y.i = (q : Int) ∧ Rd w 1 y.d.a y.d.n ((cutAt X q).map byteV) ∧ (1 ≤ y.d.n ∧ y.d.n ≤ 1024) ∧ Rd w 32 y.l.a y.l.n ((proofL ((cutL X).map leafS) q).flatMap sumC) ∧ y.l.n ≤ y.l.c ∧ y.l.n ≤ 2 := by
  obtain ⟨h1, c, hc, h3, h4, h5, h6, h7⟩ := h q y hy
  rw [cutL_get X hq] at hc
  obtain rfl : cutAt X q = c := Option.some.inj hc
  have hcl := cutAt_len X q
  have hyn := h3.len1
  have hpl : (proofL ((cutL X).map leafS) q).length ≤ 2 := proofL_length 2 _ _ (by rw [List.length_map, cutL_len]; omega)
  have hyl' := h6.rd.lenf sumC_len (by omega)
  exact ⟨h1, h3, by omega, h6.rd, h7, by omega⟩

set_option maxRecDepth 100000 in
set_option maxHeartbeats 16000000 in
theorem FetchResumes_any (A : Option Addr) (len cap : Nat) (bs : List UInt8) (x : Int) (Al : Option Addr) (ln lcp : Nat) (xs : List (Arr 4)) (w : World) (hg : Globs w) (hr : Rd w 1 A len (bs.map byteV)) (_hcap : len ≤ cap) (hx : 0 ≤ x ∧ x ≤ 65535) (hrl : Rd w 4 Al ln (xs.flatMap arrC)) (_hlc : ln ≤ lcp) :
    Calls Tryd.prog 7 #[.slice A len cap, .int .u16 x, .slice Al ln lcp] w fun e w' => e = .returned (.bool true) ∧ Below w.heap.size w w' := by
  obtain ⟨n, rfl⟩ : ∃ n : Nat, x = (n : Int) := ⟨x.toNat, by omega⟩
  obtain ⟨i35, hi35, hz35, hs35, hy35⟩ := info_parts info35
  obtain ⟨d35, hd35, hrow35⟩ := und35
  obtain ⟨i48, hi48, hz48, hs48, hy48⟩ := info_parts info48
  obtain ⟨d48, hd48, hrow48⟩ := und48
  have hln := hrl.le
  have Hr := Lib.hid hr
  have HAr := Lib.hid hrl
  have Hg := Lib.hid hg
  have Hs := Lib.hid (Sanity_any w hg)
  clear hr hg hrl
  go_enter Tryd.func7, Tryd.ntmps7
  go_wp2_with fail
  refine Hs.out.mono ?_
  rintro e w1 ⟨rfl, hb1⟩
  have HB := Lib.hid hb1
  clear Hs
  replace Hr := Lib.hid (Hr.out.below hb1)
  replace HAr := Lib.hid (HAr.out.below hb1)
  replace Hg := Lib.hid (Hg.out.below hb1)
  clear hb1
  have Hl := Lib.hid (Long_any A len cap n bs (by omega) w1 Hr.out)
  clear Hr
  go_wp2_with fail
  refine Hl.out.mono ?_
  rintro e w2 ⟨A2, c2, rfl, hc2, hr2, hb2⟩
  obtain ⟨X, hX⟩ : ∃ X, X = longL bs n := ⟨_, rfl⟩
  have hXl : X.length = 1 + n % 4000 := by rw [hX]; exact longL_len bs n
  rw [← hX] at hr2
  clear hX
  obtain ⟨L, hL⟩ : ∃ L, L = 1 + n % 4000 := ⟨_, rfl⟩
  have hL1 : 0 < L := by omega
  have hL2 : L ≤ 4000 := by omega
  rw [← hL] at hr2 hc2 hXl ⊢
  clear hL hx
  have Hc := Lib.hid (RCut_any A2 L c2 X w2 hr2 hL1 (by omega) hc2)
  have HXl := Lib.hid (And.intro hXl (show X.length ≤ 4000 by omega))
  clear hr2 Hl hXl
  replace HAr := Lib.hid (HAr.out.below hb2)
  replace Hg := Lib.hid (Hg.out.below hb2)
  replace HB := Lib.hid (HB.out.trans (hb2.mono HB.out.size))
  clear hb2
  go_wp2_with fail
  refine Hc.out.mono ?_
  rintro e w3 ⟨A3, c3, rfl, hc3, hl3, hb3⟩
  have HL3 := Lib.hid hl3
  clear hl3 Hc
  replace HAr := Lib.hid (HAr.out.below hb3)
  replace Hg := Lib.hid (Hg.out.below hb3)
  replace HB := Lib.hid (HB.out.trans (hb3.mono HB.out.size))
  clear hb3
  obtain ⟨m, hm⟩ : ∃ m, m = (L + 1023) / 1024 := ⟨_, rfl⟩
  rw [← hm] at HL3 hc3 ⊢
  have hm1 : 1 ≤ m := by omega
  have hm4 : m ≤ 4 := by omega
  have Hm := Lib.hid (show m = (X.length + 1023) / 1024 by rw [HXl.out.1]; exact hm)
  have hcs : ∀ c ∈ cutL X, c.length ≤ 8796093021000 := fun c hc => by
    obtain ⟨k, hk, rfl⟩ := List.mem_iff_getElem.1 hc
    rw [cutL_len] at hk
    have h1 := cutL_get X hk
    rw [List.getElem?_eq_getElem (by rw [cutL_len]; exact hk)] at h1
    rw [Option.some.inj h1, cutAt_len]; omega
  have Hcs := Lib.hid hcs
  have Hpf := Lib.hid (Proofs_typed A3 m c3 (cutL X) w3 w3 HL3.out (Below.refl _ _) (by omega) Hcs.out)
  clear hcs hm hL1 hL2 hc2
  go_wp2_with fail
  refine Hpf.out.mono ?_
  rintro e w4 ⟨A5, c5, ks, rfl, hc5, hks, hk5, _, hp5, hb4⟩
  have HK := Lib.hid hk5
  have HP := Lib.hid hp5
  clear hk5 hp5 Hpf
  obtain ⟨bk, ok, _, hA5, _, _⟩ := HK.out.rd.flat_ ckV_len (by omega) (show 0 < m by omega)
  subst hA5
  replace HAr := Lib.hid (HAr.out.below hb4)
  replace Hg := Lib.hid (Hg.out.below hb4)
  replace HB := Lib.hid (HB.out.trans (hb4.mono HB.out.size))
  replace HL3 := Lib.hid (HL3.out.below hb4)
  clear hb4
  obtain ⟨tr, htr⟩ : ∃ tr, tr = root (cutL X) := ⟨_, rfl⟩
  have hrl := Release_any A3 m c3 (cutL X) w4 HL3.out (by omega) Hcs.out
  rw [← htr] at hrl
  have Hrl := Lib.hid hrl
  have Htr := Lib.hid htr
  clear hrl htr
  go_wp2_with fail
  refine Hrl.out.mono ?_
  rintro e w6 ⟨rfl, hb6⟩
  clear Hrl
  replace HAr := Lib.hid (HAr.out.below hb6)
  replace Hg := Lib.hid (Hg.out.below hb6)
  replace HB := Lib.hid (HB.out.trans (hb6.mono HB.out.size))
  replace HK := Lib.hid (HK.out.below hb6)
  replace HP := Lib.hid (HP.out.below hb6)
  replace HL3 := Lib.hid (HL3.out.below hb6)
  clear hb6
  have Hn := Lib.hid (New_typed (relC 0 0 0 m tr) m tr (relC_n _ _ _ _ _) (relC_t _ _ _ _ _) hm1 (by omega) w6)
  go_upto_region 5 with fail
  refine Hn.out.mono ?_
  rintro e wa ⟨ga, rfl, hka, hba⟩
  have HT := Lib.hid (tlst_empty hka (by omega))
  clear hka Hn
  replace HAr := Lib.hid (HAr.out.below hba)
  replace Hg := Lib.hid (Hg.out.below hba)
  replace HB := Lib.hid (HB.out.trans (hba.mono HB.out.size))
  replace HK := Lib.hid (HK.out.below hba)
  replace HP := Lib.hid (HP.out.below hba)
  replace HL3 := Lib.hid (HL3.out.below hba)
  clear hba
  have Hb0 := Lib.hid (Below.refl wa.heap.size wa)
  have hn_ : Blk (wa.alloc (.cells (fetchC z32 none 0 0).toArray 35)) wa.heap.size 35 (fetchC z32 none 0 0).toArray := Blk.new _ _ _
  have Hn_ := Lib.hid hn_
  clear hn_
  go_upto_region 5 with (first | (refine wpList_alloc0 rfl 35 rfl (fetchC z32 none 0 0).toArray _ i35 hi35 hz35 rfl ?_; simp only [Act.put, List.setIfInBounds_toArray, List.set_cons_succ, List.set_cons_zero]) | (refine wpList_store_row rfl 35 (.tmp 11) (.tmp 39) rfl wa.heap.size (fetchC tr (some ⟨ga, 0, none⟩) m m).toArray rfl rfl 35 (fetchC z32 none 0 0).toArray Hn_.out (size35 _ (by simp [fetchC_len])) (by simp [fetchC_len]) (fetch_one _ _ _ _) ?_))
  obtain ⟨wb, h_⟩ : ∃ v, v = (wa.alloc (.cells (fetchC z32 none 0 0).toArray 35)).setRow wa.heap.size (fetchC tr (some ⟨ga, 0, none⟩) m m).toArray := ⟨_, rfl⟩
  have hb_ : Below wa.heap.size wa wb := by rw [h_]; exact Below.setRow ((Below.refl _ _).alloc (Nat.le_refl _) _) (Nat.le_refl _) _
  have hF_ : Blk wb wa.heap.size 35 (fetchC tr (some ⟨ga, 0, none⟩) m m).toArray := by rw [h_]; exact setRow_heap _ _ _ _ _ _ Hn_.out
  rw [← h_]
  clear h_ Hn_
  obtain ⟨tb, h_⟩ : ∃ v, v = wa.heap.size := ⟨_, rfl⟩
  rw [← h_] at hF_ ⊢
  have HFtb := Lib.hid hF_
  have Htb := Lib.hid h_
  clear hF_ h_
  replace HT := Lib.hid (HT.out.below hb_)
  replace Hb0 := Lib.hid (Hb0.out.trans (hb_.mono Hb0.out.size))
  clear hb_
  have hrl := Release_any A3 m c3 (cutL X) wb (HL3.out.below Hb0.out) (by omega) Hcs.out
  rw [← Htr.out] at hrl
  have Hrl := Lib.hid hrl
  clear hrl
  go_wp2_with fail
  refine Hrl.out.mono ?_
  rintro e w9 ⟨rfl, hb9⟩
  clear Hrl
  replace HT := Lib.hid (HT.out.below hb9)
  replace HFtb := Lib.hid (HFtb.out.below hb9 HFtb.out.lt)
  replace Hb0 := Lib.hid (Hb0.out.trans (hb9.mono Hb0.out.size))
  clear hb9
  have Hn := Lib.hid (New_typed (relC 0 0 0 m tr) m tr (relC_n _ _ _ _ _) (relC_t _ _ _ _ _) hm1 (by omega) w9)
  go_upto_region 6 with fail
  refine Hn.out.mono ?_
  rintro e wc9 ⟨gu, rfl, hku, hbu⟩
  have HU := Lib.hid (tlst_empty hku (by omega))
  have htl := (HFtb.out.below hbu HFtb.out.lt).lt
  have Htl := Lib.hid htl
  clear hku Hn htl
  replace HT := Lib.hid (HT.out.below hbu)
  replace HFtb := Lib.hid (HFtb.out.below hbu HFtb.out.lt)
  replace Hb0 := Lib.hid (Hb0.out.trans (hbu.mono Hb0.out.size))
  clear hbu
  have hn_ : Blk (wc9.alloc (.cells (fetchC z32 none 0 0).toArray 35)) wc9.heap.size 35 (fetchC z32 none 0 0).toArray := Blk.new _ _ _
  have Hn_ := Lib.hid hn_
  clear hn_
  go_upto_region 6 with (first | (refine wpList_alloc0 rfl 35 rfl (fetchC z32 none 0 0).toArray _ i35 hi35 hz35 rfl ?_; simp only [Act.put, List.setIfInBounds_toArray, List.set_cons_succ, List.set_cons_zero]) | (refine wpList_store_row rfl 35 (.tmp 13) (.tmp 45) rfl wc9.heap.size (fetchC tr (some ⟨gu, 0, none⟩) m m).toArray rfl rfl 35 (fetchC z32 none 0 0).toArray Hn_.out (size35 _ (by simp [fetchC_len])) (by simp [fetchC_len]) (fetch_one _ _ _ _) ?_))
  obtain ⟨wd, h_⟩ : ∃ v, v = (wc9.alloc (.cells (fetchC z32 none 0 0).toArray 35)).setRow wc9.heap.size (fetchC tr (some ⟨gu, 0, none⟩) m m).toArray := ⟨_, rfl⟩
  have hb_ : Below wc9.heap.size wc9 wd := by rw [h_]; exact Below.setRow ((Below.refl _ _).alloc (Nat.le_refl _) _) (Nat.le_refl _) _
  have hF_ : Blk wd wc9.heap.size 35 (fetchC tr (some ⟨gu, 0, none⟩) m m).toArray := by rw [h_]; exact setRow_heap _ _ _ _ _ _ Hn_.out
  rw [← h_]
  clear h_ Hn_
  obtain ⟨ub, h_⟩ : ∃ v, v = wc9.heap.size := ⟨_, rfl⟩
  rw [← h_] at hF_ ⊢
  have HFub := Lib.hid hF_
  have Hub := Lib.hid h_
  clear hF_ h_
  replace HT := Lib.hid (HT.out.below hb_)
  replace HU := Lib.hid (HU.out.below hb_)
  replace HFtb := Lib.hid (HFtb.out.below hb_ HFtb.out.lt)
  replace Hb0 := Lib.hid (Hb0.out.trans (hb_.mono Hb0.out.size))
  clear hb_
  have htu : tb < ub := by have h1 := Htl.out; have h2 := Hub.out; omega
  go_wp2_with fail
  go_loopw [15] (fun v15 wr => ∃ (i : Nat) (A' : Option Addr) (c' : Nat) (hh : List (List UInt8)) (B' : Option Addr) (d' : Nat) (uu : List (List UInt8)), v15 = .int .i64 (i : Int) ∧ i ≤ m ∧ Blk wr tb 35 (fetchC tr A' m c').toArray ∧ TLst wr A' m hh ∧ Goodh X hh ∧ (∀ j, j < i → hh[j]? = some (cutAt X j)) ∧ Blk wr ub 35 (fetchC tr B' m d').toArray ∧ TLst wr B' m uu ∧ Goodh X uu ∧ (∀ j, m ≤ i + j → j < m → uu[j]? = some (cutAt X j)) ∧ Below wa.heap.size wa wr) (fun v15 _ => m - (intOf v15).toNat)
  case atStart => exact ⟨0, _, m, List.replicate m [], _, m, List.replicate m [], rfl, by omega, HFtb.out, HT.out, by rw [Hm.out]; exact good_start X, fun j h => by omega, HFub.out, HU.out, by rw [Hm.out]; exact good_start X, fun j h h2 => by omega, Hb0.out⟩
  case round =>
    obtain ⟨i, A6, c6, hh, B6, d6, uu, rfl, him, hF, hT, hgd, hfl, hU, hTu, hgu, hfu, hB⟩ := hrel
    have HF := Lib.hid hF
    have HT := Lib.hid hT
    have HFu := Lib.hid hU
    have HTu := Lib.hid hTu
    have Hgd := Lib.hid hgd
    have Hgu := Lib.hid hgu
    have Hfl := Lib.hid hfl
    have Hfu := Lib.hid hfu
    have Hw := Lib.hid hB
    have hsz := hB.size
    have hhl := hT.lst.len
    clear hF hT hgd hU hTu hgu hB hfl hfu
    by_cases hlt : i < m
    · by_cases hbe : i < ln ∧ i < 8
      · obtain ⟨a1, a2⟩ := hbe
        obtain ⟨bl, ol, ya, rfl, hya, cya⟩ := (HAr.out.below Hw.out).flat_ arrC_len (by omega) a1
        obtain ⟨b0, b1, b2, b3, hy4⟩ := arr4 ya
        rw [hy4] at cya
        obtain ⟨q, hq⟩ : ∃ q, q = b0.toNat % m := ⟨_, rfl⟩
        have hqm : q < m := by rw [hq]; exact Nat.mod_lt _ (by omega)
        have hqi : (b0.toNat : Int) % (m : Int) = (q : Int) := by rw [hq]; omega
        have hx0 := b0.toNat_lt
        obtain ⟨bk1, ok1, y, hA5, hy, hcy⟩ := (HK.out.below Hw.out).rd.flat_ ckV_len (by omega) hqm
        obtain ⟨rfl, rfl⟩ : bk = bk1 ∧ ok = ok1 := by simp at hA5; exact hA5
        clear hA5
        obtain ⟨hyi, c, hc, hyd, hydc, _, hyl, hylc⟩ := (HP.out.below Hw.out) q y hy
        rw [cutL_get X (by rw [← Hm.out]; exact hqm)] at hc
        obtain rfl : cutAt X q = c := Option.some.inj hc
        have hcl := cutAt_len X q
        have hyn := hyd.len1
        have hpl : (proofL ((cutL X).map leafS) q).length ≤ 2 := proofL_length 2 _ _ (by rw [List.length_map, cutL_len, ← Hm.out]; omega)
        have hyl' := hyl.rd.lenf sumC_len (by omega)
        have hxl := HXl.out.1
        have hmm := Hm.out
        have hdn : 1 ≤ y.d.n ∧ y.d.n ≤ 1024 := by omega
        have hln2 : y.l.n ≤ 2 := by omega
        obtain ⟨yi, ⟨da, dn, dc⟩, ⟨la, lnn, lc⟩⟩ := y
        simp only at hyi hyd hydc hyl hylc hyn hyl' hdn hln2
        subst hyi
        have hrk : ∀ w', Ext wr w' → w'.rangeAt bk (ok + q * 3) (ckV ⟨(q : Int), ⟨da, dn, dc⟩, ⟨la, lnn, lc⟩⟩) := fun w' hw' j v hv => by
          have := hcy j v hv
          rw [← Nat.add_assoc] at this
          exact ((ext_below hw').cell (World.block_lt_of_cell? wr _ this)).trans this
        have hr4 : ∀ w', Ext wr w' → w'.rangeAt bl (ol + i * 4) [byteV b0, byteV b1, byteV b2, byteV b3] := fun w' hw' j v hv => by
          have := cya j v hv
          rw [← Nat.add_assoc] at this
          exact ((ext_below hw').cell (World.block_lt_of_cell? wr _ this)).trans this
        have e0 : wr.cell? ⟨bl, ol + i * 4, none⟩ = some (.int .u8 (b0.toNat : Int)) := cya 0 (byteV b0) rfl
        have e0r := cell_regrown e0
        have Hrk := Lib.hid hrk
        have Hr4 := Lib.hid hr4
        have Hyd := Lib.hid hyd
        have Hyl := Lib.hid hyl
        have hmq : (wrap64 (b0.toNat : Int)).tmod (m : Int) = (q : Int) := by
          rw [show wrap64 (b0.toNat : Int) = (b0.toNat : Int) from by unfold wrap64; omega, Int.tmod_eq_emod_of_nonneg (by omega), hqi]
        clear hrk hr4 hyd hyl hq e0 cya hcy hy hc hcl hyn hpl hyl' hxl hmm hya hy4
        have d3 : decide ((i : Int) < 8) = true := decide_eq_true (by omega)
        go_upto_region 12 with fail
        try simp only [Act.put]
        go_cut [16] from 67 to 83 (fun t16 wx => ∃ (B : Nat) (z : Ck), t16 = .pointer (some ⟨B, 0, none⟩) ∧ wr.heap.size ≤ B ∧ Blk wx B 48 (ckV z).toArray ∧ z.i = bentN (q : Int) b1 b3 ∧
            TRd wx 5 1 z.d.a z.d.n ((bentD (cutAt X q) b1 b2 b3).map byteV) ∧ z.d.n ≤ z.d.c ∧ TRd wx 33 32 z.l.a z.l.n ((bentL (proofL ((cutL X).map leafS) q) b1 b2 b3).flatMap sumC) ∧ z.l.n ≤ z.l.c ∧ Below wr.heap.size wr wx)
        case first =>
          refine wp_region_reads_tail 18 [0, 1, 2, 3, 4, 5, 6, 7, 8, 9, 10, 11, 12, 13, 14, 15] 2 (by kernel_rfl) (List.take_append_drop _ _) rfl (by kernel_rfl) (by kernel_rfl) (by kernel_rfl) (by decide) (by kernel_rfl) (by kernel_rfl) (fun _ _ d _ _ h => by cases d <;> exact h) (by kernel_rfl) (by kernel_rfl) rfl ?_
          simp only [List.take_succ_cons, List.take_zero, List.drop_succ_cons, List.drop_zero, pickOps, List.getElem?_cons_zero, List.getElem?_cons_succ]
          repeat (first | go_big_quiet_step (fail) | (refine wpQuiet_load_mid rfl 48 _ rfl bk (ok + q * 3) rfl (ckV ⟨(q : Int), ⟨da, dn, dc⟩, ⟨la, lnn, lc⟩⟩) _ Hrk.out hd48 hrow48 (by kernel_rfl) ?_; simp only [Act.put, List.setIfInBounds_toArray, List.set_cons_succ, List.set_cons_zero]) | (refine wpQuiet_load_mid rfl 50 _ rfl bl (ol + i * 4) rfl [byteV b0, byteV b1, byteV b2, byteV b3] _ Hr4.out und50 rfl (by kernel_rfl) ?_; simp only [Act.put, List.setIfInBounds_toArray, List.set_cons_succ, List.set_cons_zero]))
          refine wpQuiet_nil ?_
          clear hmq hqi e0r
          refine web_start0 (fs := [floVar 17 16 48 (ckV zck).toArray]) [.act 16 []] _ _ (by kernel_rfl) (fun _ _ d _ _ h => by cases d <;> exact h) ⟨⟨_, rfl, flo_var rfl rfl rfl _ i48 hi48 hz48 rfl⟩, trivial⟩ (by decide) (by decide) (by kernel_rfl) (by kernel_rfl) (ext_drew (ext_refl _)) (by intro F hF; simp at hF; subst hF; simp) 2 (by decide) (by kernel_rfl) ?_
          intro v1 W hW _ o ho K hK
          cases ho
          have hbW : Below wr.heap.size wr W := ((Below.refl _ wr).drew).trans hW
          simp only [putS, List.foldl_cons, List.foldl_nil, Act.put, List.setIfInBounds_toArray, List.set_cons_succ, List.set_cons_zero]
          have Hbt := Lib.hid (Bent_any (q : Int) da dn dc (cutAt X q) la lnn lc (proofL ((cutL X).map leafS) q) b0 b1 b2 b3 W (by omega) (Hyd.out.below hbW) (by omega) (Hyl.out.rd.below hbW) (by omega))
          unfold StepP
          go_simp
          refine Hbt.out.mono ?_
          rintro e W7 ⟨z, rfl, hz1, hz2, hz3, hz4, hz5, hb7⟩
          refine hK _ _ (by intro F hF; simp at hF; subst hF; exact ⟨rfl, by simp [Act.put]⟩) hb7 ?_
          have hW7 := hbW.trans (hb7.mono hbW.size)
          clear hK K Hbt
          intro v5 W8 hW8 hall
          obtain ⟨B, hvB, hBw, hBb⟩ := hall (floVar 17 16 48 (ckV zck).toArray) (by simp) (floVar 17 16 48 (ckV zck).toArray) (by simp) rfl
          have hvB' : v5 17 = .pointer (some ⟨B, 0, none⟩) := hvB
          have hb8 := hW7.trans (hW8.mono hW7.size)
          have hset := Below.setRow hb8 hBw (ckV z).toArray
          have HKB := (KeptIn.refl (fun k => k ≠ B) W8).setRow (g := B) (fun h => h rfl) (ckV z).toArray
          have hz2' := (hz2.below hW8).kept hBb (by decide) HKB
          have hz4' := (hz4.below hW8).kept hBb (by decide) HKB
          have hB' : Blk (W8.setRow B (ckV z).toArray) B 48 (ckV z).toArray := setRow_heap _ _ _ _ _ _ hBb
          have Hset := Lib.hid hset
          have Hz2 := Lib.hid hz2'
          have Hz4 := Lib.hid hz4'
          have HB' := Lib.hid hB'
          simp only [Exit.then, putS, List.foldl_cons, List.foldl_nil, Act.put, List.setIfInBounds_toArray, List.set_cons_succ, List.set_cons_zero]
          rw [hvB']
          refine wpList_store_row rfl 48 (.tmp 16) (.tmp 83) rfl B (ckV z).toArray rfl rfl 48 (ckV zck).toArray hBb (size48 _ rfl) rfl (ck_all _) ?_
          refine wpList_nil ?_
          clear hset HKB hz2 hz4 hz2' hz4' hB' hb7 hb8 hW8 hW7 hall hvB hvB' hBb hbW hW
          go_wp2_with fail
          go_meet
          exact ⟨B, z, rfl, hBw, HB'.out, hz1, Hz2.out, hz3, Hz4.out, hz5, Hset.out⟩
        case' rest => skip
        obtain ⟨B, z, rfl, hBw, hB6, hz1, hz2, hz3, hz4, hz5, hb6⟩ := hcut
        clear hmq hqi e0r Hrk Hr4 Hyd Hyl
        obtain ⟨ws, hws⟩ : ∃ v, v = wc := ⟨_, rfl⟩
        subst hws
        obtain ⟨zi, ⟨za, zn, zc⟩, ⟨yb, yn, yc⟩⟩ := z
        simp only at hz1 hz2 hz3 hz4 hz5
        obtain ⟨D, hD⟩ : ∃ D, D = bentD (cutAt X q) b1 b2 b3 := ⟨_, rfl⟩
        obtain ⟨Pf, hPf⟩ : ∃ Pf, Pf = bentL (proofL ((cutL X).map leafS) q) b1 b2 b3 := ⟨_, rfl⟩
        rw [← hD] at hz2
        rw [← hPf] at hz4
        have hDl : D.length ≤ 1025 := by
          rw [hD]
          have h1 := bentD_len (cutAt X q) b1 b2 b3
          have h2 := cutAt_len X q
          omega
        have hzn := hz2.rd.len1
        have hzi : -3 ≤ zi ∧ zi ≤ 300 := by
          rw [hz1]
          have := bentN_bd (q : Int) b1 b3
          omega
        have hzn2 : zn ≤ 1025 := by omega
        have HZ := Lib.hid hB6
        have Hz2 := Lib.hid hz2.rd
        have Hz4 := Lib.hid hz4.rd
        clear hz1 hD hPf hDl hzn hB6 hz2 hz4 hqm hx0 hBw hdn hln2 hydc hylc d3
        replace HF := Lib.hid (HF.out.below hb6 HF.out.lt)
        replace HT := Lib.hid (HT.out.below hb6)
        replace HFu := Lib.hid (HFu.out.below hb6 HFu.out.lt)
        replace HTu := Lib.hid (HTu.out.below hb6)
        replace Hw := Lib.hid (Hw.out.trans (hb6.mono Hw.out.size))
        clear hb6
        obtain ⟨E, hE⟩ : ∃ E, E = takeE tr hh zi D Pf := ⟨_, rfl⟩
        obtain ⟨H, hH⟩ : ∃ H, H = takeH tr hh zi D Pf := ⟨_, rfl⟩
        obtain ⟨R, hR⟩ : ∃ R, R = decide ((0 ≤ zi ∧ zi < (m : Int)) ∧ chkL m zi.toNat (leafS D) Pf = some tr) := ⟨_, rfl⟩
        have hE0 : E = 0 → R = true := fun e => by
          have := takeE_right (hE ▸ e)
          rw [hhl] at this
          rw [hR, decide_eq_true this]
        have hE1 : E ≠ 0 → H = hh := fun e => by rw [hH]; exact takeH_bad (hE ▸ e)
        have hR1 : R = true → 0 ≤ zi ∧ zi < (m : Int) := fun e => by
          rw [hR] at e
          exact (of_decide_eq_true e).1
        have hck := RCheck_all tr m zi za yb zn zc yn yc D Pf (by omega) ws Hz2.out (by omega) Hz4.out
        unfold claimV at hck
        rw [← hR] at hck
        have Hck := Lib.hid hck
        have HE := Lib.hid hE
        have HH := Lib.hid hH
        have HE0 := Lib.hid hE0
        have HE1 := Lib.hid hE1
        have HR1 := Lib.hid hR1
        have k0 : ws.cell? ⟨B, 0, none⟩ = some (.int .i64 zi) := by rw [HZ.out.cell]; rfl
        have k1 : ws.cell? ⟨B, 1, none⟩ = some (.slice za zn zc) := by rw [HZ.out.cell]; rfl
        have k2 : ws.cell? ⟨B, 2, none⟩ = some (.slice yb yn yc) := by rw [HZ.out.cell]; rfl
        have hrt := fetchC_tree HF.out
        have Hrt := Lib.hid hrt
        clear hck hE hH hR hE0 hE1 hR1 hrt
        go_upto_region 14 with (refine wpList_load_mid rfl 33 _ rfl tb 0 rfl (sumC tr) _ Hrt.out und32 rfl (by rw [sumC_len]; kernel_rfl) ?_)
        refine Hck.out.mono ?_
        rintro e wx ⟨rfl, hb7⟩
        clear Hck k0 k1 k2 Hrt
        replace HF := Lib.hid (HF.out.below hb7 HF.out.lt)
        replace HT := Lib.hid (HT.out.below hb7)
        replace HFu := Lib.hid (HFu.out.below hb7 HFu.out.lt)
        replace HTu := Lib.hid (HTu.out.below hb7)
        replace Hw := Lib.hid (Hw.out.trans (hb7.mono Hw.out.size))
        replace HZ := Lib.hid (HZ.out.below hb7 HZ.out.lt)
        replace Hz2 := Lib.hid (Hz2.out.below hb7)
        replace Hz4 := Lib.hid (Hz4.out.below hb7)
        clear hb7
        have htk := Take_typed tr A6 m c6 hh zi za zn zc D yb yn yc Pf wx (Hg.out.below Hw.out) HT.out.lst (by omega) Hz2.out (by omega) Hz4.out hz5 (by omega)
        rw [← HE.out, ← HH.out] at htk
        have Htk := Lib.hid htk
        have k0 : wx.cell? ⟨B, 0, none⟩ = some (.int .i64 zi) := by rw [HZ.out.cell]; rfl
        have k1 : wx.cell? ⟨B, 1, none⟩ = some (.slice za zn zc) := by rw [HZ.out.cell]; rfl
        have k2 : wx.cell? ⟨B, 2, none⟩ = some (.slice yb yn yc) := by rw [HZ.out.cell]; rfl
        clear htk
        go_upto_region 15 with (refine wpList_load_mid rfl 35 (.tmp 11) rfl tb 0 rfl (fetchC tr A6 m c6) _ (fetch_range HF.out) hd35 hrow35 (by rw [fetchC_len]; kernel_rfl) ?_)
        refine Htk.out.mono ?_
        rintro e wy ⟨A7, c7, rfl, hl7, _, hb8⟩
        have HA := Lib.hid hl7
        clear hl7 Htk k0 k1 k2
        replace HF := Lib.hid (HF.out.below hb8 HF.out.lt)
        replace HT := Lib.hid (HT.out.below hb8)
        replace HFu := Lib.hid (HFu.out.below hb8 HFu.out.lt)
        replace HTu := Lib.hid (HTu.out.below hb8)
        replace Hw := Lib.hid (Hw.out.trans (hb8.mono Hw.out.size))
        replace HZ := Lib.hid (HZ.out.below hb8 HZ.out.lt)
        replace Hz2 := Lib.hid (Hz2.out.below hb8)
        replace Hz4 := Lib.hid (Hz4.out.below hb8)
        clear hb8
        have hn_ : Blk (wy.alloc (.cells (fetchC z32 none 0 0).toArray 35)) wy.heap.size 35 (fetchC z32 none 0 0).toArray := Blk.new _ _ _
        have Hn_ := Lib.hid hn_
        clear hn_
        go_upto_region 15 with (first | (refine wpList_alloc0 rfl 35 rfl (fetchC z32 none 0 0).toArray _ i35 hi35 hz35 rfl ?_; simp only [Act.put, List.setIfInBounds_toArray, List.set_cons_succ, List.set_cons_zero]) | (refine wpList_store_row rfl 35 (.tmp 18) (.tmp 105) rfl wy.heap.size (fetchC tr A7 m c7).toArray rfl rfl 35 (fetchC z32 none 0 0).toArray Hn_.out (size35 _ (by simp [fetchC_len])) (by simp [fetchC_len]) (fetch_one _ _ _ _) ?_))
        obtain ⟨wz, h_⟩ : ∃ v, v = (wy.alloc (.cells (fetchC z32 none 0 0).toArray 35)).setRow wy.heap.size (fetchC tr A7 m c7).toArray := ⟨_, rfl⟩
        have hb_ : Below wy.heap.size wy wz := by rw [h_]; exact Below.setRow ((Below.refl _ _).alloc (Nat.le_refl _) _) (Nat.le_refl _) _
        have hF_ : Blk wz wy.heap.size 35 (fetchC tr A7 m c7).toArray := by rw [h_]; exact setRow_heap _ _ _ _ _ _ Hn_.out
        rw [← h_]
        clear h_ Hn_
        obtain ⟨xb, h_⟩ : ∃ v, v = wy.heap.size := ⟨_, rfl⟩
        rw [← h_] at hF_ ⊢
        have HFxb := Lib.hid hF_
        have Hxb := Lib.hid h_
        clear hF_ h_
        replace HA := Lib.hid (HA.out.below hb_)
        replace HF := Lib.hid (HF.out.below hb_ HF.out.lt)
        replace HT := Lib.hid (HT.out.below hb_)
        replace HFu := Lib.hid (HFu.out.below hb_ HFu.out.lt)
        replace HTu := Lib.hid (HTu.out.below hb_)
        replace Hw := Lib.hid (Hw.out.trans (hb_.mono Hw.out.size))
        replace HZ := Lib.hid (HZ.out.below hb_ HZ.out.lt)
        replace Hz2 := Lib.hid (Hz2.out.below hb_)
        replace Hz4 := Lib.hid (Hz4.out.below hb_)
        clear hb_
        by_cases hE : E = 0
        · have hRt := HE0.out hE
          subst hRt
          subst hE
          go_upto_region 17 with fail
          obtain ⟨hz0, hzm⟩ := HR1.out rfl
          obtain ⟨z, rfl⟩ : ∃ z : Nat, zi = (z : Int) := ⟨zi.toNat, by omega⟩
          have hzm' : z < m := by omega
          have k0 : wz.cell? ⟨B, 0, none⟩ = some (.int .i64 (z : Int)) := by rw [HZ.out.cell]; rfl
          have k1 : wz.cell? ⟨B, 1, none⟩ = some (.slice za zn zc) := by rw [HZ.out.cell]; rfl
          obtain ⟨bz, oz, vz, cz, rfl, hcz, ccz, hrz, _⟩ := (HL3.out.below Hw.out).at_ hzm'
          rw [cutL_get X (by rw [← Hm.out]; exact hzm')] at hcz
          obtain rfl : cutAt X z = cz := Option.some.inj hcz
          have hcx : ∀ j, (convert 22 9 (.slice za zn zc)).run Tryd.prog (wz.drewN j) = .ok (.string (str D)) (wz.drewN j) := fun j => convert_bytes za zn zc D _ (Hz2.out.drewN j)
          have hcy : ∀ j, (convert 22 9 (.slice vz.a vz.n vz.c)).run Tryd.prog (wz.drewN j) = .ok (.string (str (cutAt X z))) (wz.drewN j) := fun j => convert_bytes vz.a vz.n vz.c (cutAt X z) _ (hrz.drewN j)
          have hsb := str_beq D (cutAt X z)
          clear hcz hrz
          by_cases hDz : D = cutAt X z
          · have hsb2 : ((str D).toList == (str (cutAt X z)).toList) = true := by rw [hsb, decide_eq_true hDz]
            have hsb3 : ((str D).toList != (str (cutAt X z)).toList) = false := by rw [bne, hsb2]; rfl
            clear hsb hDz
            go_upto_region 17 with fail
            go_quiet (fail)
            clear hcx hcy hsb2 hsb3 k0 k1 ccz
            have hbq := below_drewN (Below.refl wz.heap.size wz) nq
            generalize wz.drewN nq = wq at *
            replace HF := Lib.hid (HF.out.below hbq HF.out.lt)
            replace HT := Lib.hid (HT.out.below hbq)
            replace HFu := Lib.hid (HFu.out.below hbq HFu.out.lt)
            replace HTu := Lib.hid (HTu.out.below hbq)
            replace Hw := Lib.hid (Hw.out.trans (hbq.mono Hw.out.size))
            clear hbq
            clear HZ Hz2 Hz4 HR1 HE HH HE0 HE1
            go_upto_region 19 with fail
            obtain ⟨bk1, ok1, y2, hA5, hy, hcy⟩ := (HK.out.below Hw.out).rd.flat_ ckV_len (by omega) (show i < m by omega)
            obtain ⟨rfl, rfl⟩ : bk = bk1 ∧ ok = ok1 := by simp at hA5; exact hA5
            clear hA5
            have hqX : i < (X.length + 1023) / 1024 := by rw [← Hm.out]; omega
            obtain ⟨hyi, hyd, hdn, hyl, hylc, hln2⟩ := (HP.out.below Hw.out).at hy hqX HXl.out.2
            obtain ⟨yi, ⟨da, dn, dc⟩, ⟨la, lnn, lc⟩⟩ := y2
            simp only at hyi hyd hyl hylc hdn hln2
            subst hyi
            have k0 : wq.cell? ⟨bk, ok + i * 3, none⟩ = some (.int .i64 (i : Int)) := hcy 0 _ rfl
            have k1 : wq.cell? ⟨bk, ok + i * 3 + 1, none⟩ = some (.slice da dn dc) := by rw [Nat.add_assoc]; exact hcy 1 _ rfl
            have k2 : wq.cell? ⟨bk, ok + i * 3 + 2, none⟩ = some (.slice la lnn lc) := by rw [Nat.add_assoc]; exact hcy 2 _ rfl
            have k0r := cell_regrown k0
            have k1r := cell_regrown k1
            have k2r := cell_regrown k2
            have Hyd := Lib.hid hyd
            have Hyl := Lib.hid hyl
            have Htk0 := Lib.hid (take_right X Hgd.out hqX)
            have Htk0s := Lib.hid (take_step X Hgd.out hqX)
            rw [← Htr.out] at Htk0 Htk0s
            obtain ⟨hhn, hnn⟩ : ∃ v, v = takeH tr hh (i : Int) (cutAt X i) (proofL ((cutL X).map leafS) i) := ⟨_, rfl⟩
            rw [← hnn] at Htk0s
            have Hnn := Lib.hid hnn
            have hrs : ∀ w', Ext wq w' → w'.rangeAt tb 0 (fetchC tr A6 m c6) := fun w' hw' => fetch_range (HF.out.below (ext_below hw') HF.out.lt)
            have Hrs := Lib.hid hrs
            clear hrs hnn hy hcy k0 k1 k2 hyd hyl hqX
            go_cut [20, 21] from 138 to 156 (fun td te wx => ∃ (B : Nat) (A8 : Option Addr) (c8 : Nat), td = .pointer (some ⟨B, 0, none⟩) ∧ te = .int .i64 0 ∧ wq.heap.size ≤ B ∧ Blk wx B 35 (fetchC tr A8 m c8).toArray ∧ TLst wx A8 m hhn ∧ Below wq.heap.size wq wx)
            case first =>
              refine wp_region_reads_tail 22 [0, 1, 2, 3, 4, 5, 6, 7, 8, 9, 10, 11, 12, 13, 14, 15] 6 (by kernel_rfl) (List.take_append_drop _ _) rfl (by kernel_rfl) (by kernel_rfl) (by kernel_rfl) (by decide) (by kernel_rfl) (by kernel_rfl) (fun _ _ d _ _ h => by cases d <;> exact h) (by kernel_rfl) (by kernel_rfl) rfl ?_
              simp only [List.take_succ_cons, List.take_zero, List.drop_succ_cons, List.drop_zero, pickOps, List.getElem?_cons_zero, List.getElem?_cons_succ]
              refine wpQuiet_load_mid rfl 35 _ rfl tb 0 rfl (fetchC tr A6 m c6) _ Hrs.out hd35 hrow35 (by rw [fetchC_len]; kernel_rfl) ?_
              simp only [Act.put, List.setIfInBounds_toArray, List.set_cons_succ, List.set_cons_zero]
              repeat (go_big_quiet_step (fail))
              refine wpQuiet_nil ?_
              clear k0r k1r k2r
              refine chain_float (w0 := wq) (d := 20) (f := 20) (s := 21) (T := 35) (Z := (fetchC z32 none 0 0).toArray) (y := .tmp 155) (is1 := [17, 18, 19]) (by kernel_rfl) (fun _ _ d _ _ h => by cases d <;> exact h) (by kernel_rfl) rfl rfl rfl rfl (fun cells h => size35 _ (h.trans (by simp [fetchC_len]))) rfl rfl rfl rfl hi35 hz35 rfl [16] _ _ _ (by kernel_rfl) rfl (ext_drew (ext_refl _)) (by simp) ?_
              intro y1 W hW
              have hbW : Below wq.heap.size wq W := ((Below.refl _ wq).drew).trans hW
              simp only [Act.put, List.setIfInBounds_toArray, List.set_cons_succ, List.set_cons_zero, pickOps, List.getElem?_cons_zero, List.getElem?_cons_succ]
              have htk := Take_typed tr A6 m c6 hh (i : Int) da dn dc (cutAt X i) la lnn lc (proofL ((cutL X).map leafS) i) W ((Hg.out.below Hw.out).below hbW) (HT.out.lst.below hbW) (by omega) (Hyd.out.below hbW) (by omega) (Hyl.out.below hbW) hylc (by omega)
              rw [Htk0.out, ← Hnn.out] at htk
              have Htk2 := Lib.hid htk
              clear htk hW
              intro K hK
              go_simp
              refine Htk2.out.mono ?_
              rintro e W3 ⟨A8, c8, rfl, _, hT8, hb8⟩
              refine hK _ _ rfl (by simp) hb8 ?_
              have HT8 := Lib.hid (hT8 (HT.out.below hbW))
              have Hb8 := Lib.hid (hbW.trans (hb8.mono hbW.size))
              clear hK K Htk2 hT8 hb8 hbW
              intro y3 W4 hW4
              simp only [Act.put, List.setIfInBounds_toArray, List.set_cons_succ, List.set_cons_zero, chainP, finP, pickOps, List.getElem?_cons_zero, List.getElem?_cons_succ]
              repeat (go_big_quiet_step (fail))
              refine wpQuiet_nil ?_
              refine ⟨rfl, by simp, fun B W5 hB hb5 hblk => ⟨_, rfl, by simp [fetchC_len], fetch_one _ _ _ _, ?_⟩⟩
              have hbb := hW4.trans (hb5.mono hW4.size)
              have hb6 := Below.setRow (Hb8.out.trans (hbb.mono Hb8.out.size)) hB (fetchC tr A8 m c8).toArray
              have hT9 := ((HT8.out.below hbb).setRow hblk (cells := (fetchC tr A8 m c8).toArray))
              have hF9 : Blk (W5.setRow B (fetchC tr A8 m c8).toArray) B 35 (fetchC tr A8 m c8).toArray := setRow_heap _ _ _ _ _ _ hblk
              have Hb6 := Lib.hid hb6
              have HT9' := Lib.hid hT9
              have HF9 := Lib.hid hF9
              clear hb6 hW4 hb5 hblk Hb8 HT8 hbb hT9 hF9
              simp only [Exit.then, Act.put, List.setIfInBounds_toArray, List.set_cons_succ, List.set_cons_zero]
              go_wp2_with fail
              go_meet
              exact ⟨B, A8, c8, rfl, rfl, hB, HF9.out, HT9'.out, Hb6.out⟩
            case' rest => skip
            obtain ⟨nb, A7, c7, rfl, rfl, hlonb, hFn, hTn, hbn⟩ := hcut
            obtain ⟨wt, hwe⟩ : ∃ v, v = wc := ⟨_, rfl⟩
            subst hwe
            have HFnb := Lib.hid hFn
            have HTnb := Lib.hid hTn
            clear k0r k1r k2r Hrs hFn hTn Hyd Hyl Hnn hdn hln2 hylc
            have hwl0 := HFu.out.lt
            have hlo2 : tb < wq.heap.size := HF.out.lt
            replace HF := Lib.hid (HF.out.below hbn HF.out.lt)
            replace HT := Lib.hid (HT.out.below hbn)
            replace HFu := Lib.hid (HFu.out.below hbn HFu.out.lt)
            replace HTu := Lib.hid (HTu.out.below hbn)
            replace Hw := Lib.hid (Hw.out.trans (hbn.mono Hw.out.size))
            clear hbn
            obtain ⟨k, hk⟩ : ∃ k, k = m - 1 - i := ⟨_, rfl⟩
            have hkm : k < m := by omega
            have hki : (m : Int) - 1 - (i : Int) = (k : Int) := by omega
            have Hki := Lib.hid (And.intro hk hki)
            clear hk hki
            go_upto_region 21 with fail
            rw [Hki.out.2]
            obtain ⟨bk1, ok1, y2, hA5, hy, hcy⟩ := (HK.out.below Hw.out).rd.flat_ ckV_len (by omega) (show k < m by omega)
            obtain ⟨rfl, rfl⟩ : bk = bk1 ∧ ok = ok1 := by simp at hA5; exact hA5
            clear hA5
            have hqX : k < (X.length + 1023) / 1024 := by rw [← Hm.out]; omega
            obtain ⟨hyi, hyd, hdn, hyl, hylc, hln2⟩ := (HP.out.below Hw.out).at hy hqX HXl.out.2
            obtain ⟨yi, ⟨da, dn, dc⟩, ⟨la, lnn, lc⟩⟩ := y2
            simp only at hyi hyd hyl hylc hdn hln2
            subst hyi
            have k0 : wt.cell? ⟨bk, ok + k * 3, none⟩ = some (.int .i64 (k : Int)) := hcy 0 _ rfl
            have k1 : wt.cell? ⟨bk, ok + k * 3 + 1, none⟩ = some (.slice da dn dc) := by rw [Nat.add_assoc]; exact hcy 1 _ rfl
            have k2 : wt.cell? ⟨bk, ok + k * 3 + 2, none⟩ = some (.slice la lnn lc) := by rw [Nat.add_assoc]; exact hcy 2 _ rfl
            have k0r := cell_regrown k0
            have k1r := cell_regrown k1
            have k2r := cell_regrown k2
            have Hyd := Lib.hid hyd
            have Hyl := Lib.hid hyl
            have Htk1 := Lib.hid (take_right X Hgu.out hqX)
            have Htk1s := Lib.hid (take_step X Hgu.out hqX)
            rw [← Htr.out] at Htk1 Htk1s
            obtain ⟨uun, hnn⟩ : ∃ v, v = takeH tr uu (k : Int) (cutAt X k) (proofL ((cutL X).map leafS) k) := ⟨_, rfl⟩
            rw [← hnn] at Htk1s
            have Hnn := Lib.hid hnn
            have hrs : ∀ w', Ext wt w' → w'.rangeAt ub 0 (fetchC tr B6 m d6) := fun w' hw' => fetch_range (HFu.out.below (ext_below hw') HFu.out.lt)
            have Hrs := Lib.hid hrs
            clear hrs hnn hy hcy k0 k1 k2 hyd hyl hqX
            go_cut [23, 24] from 163 to 181 (fun td te wx => ∃ (B : Nat) (A8 : Option Addr) (c8 : Nat), td = .pointer (some ⟨B, 0, none⟩) ∧ te = .int .i64 0 ∧ wt.heap.size ≤ B ∧ Blk wx B 35 (fetchC tr A8 m c8).toArray ∧ TLst wx A8 m uun ∧ Below wt.heap.size wt wx)
            case first =>
              refine wp_region_reads_tail 22 [0, 1, 2, 3, 4, 5, 6, 7, 8, 9, 10, 11, 12, 13, 14, 15] 6 (by kernel_rfl) (List.take_append_drop _ _) rfl (by kernel_rfl) (by kernel_rfl) (by kernel_rfl) (by decide) (by kernel_rfl) (by kernel_rfl) (fun _ _ d _ _ h => by cases d <;> exact h) (by kernel_rfl) (by kernel_rfl) rfl ?_
              simp only [List.take_succ_cons, List.take_zero, List.drop_succ_cons, List.drop_zero, pickOps, List.getElem?_cons_zero, List.getElem?_cons_succ]
              refine wpQuiet_load_mid rfl 35 _ rfl ub 0 rfl (fetchC tr B6 m d6) _ Hrs.out hd35 hrow35 (by rw [fetchC_len]; kernel_rfl) ?_
              simp only [Act.put, List.setIfInBounds_toArray, List.set_cons_succ, List.set_cons_zero]
              repeat (go_big_quiet_step (fail))
              refine wpQuiet_nil ?_
              clear k0r k1r k2r
              refine chain_float (w0 := wt) (d := 23) (f := 20) (s := 21) (T := 35) (Z := (fetchC z32 none 0 0).toArray) (y := .tmp 180) (is1 := [17, 18, 19]) (by kernel_rfl) (fun _ _ d _ _ h => by cases d <;> exact h) (by kernel_rfl) rfl rfl rfl rfl (fun cells h => size35 _ (h.trans (by simp [fetchC_len]))) rfl rfl rfl rfl hi35 hz35 rfl [16] _ _ _ (by kernel_rfl) rfl (ext_drew (ext_refl _)) (by simp) ?_
              intro y1 W hW
              have hbW : Below wt.heap.size wt W := ((Below.refl _ wt).drew).trans hW
              simp only [Act.put, List.setIfInBounds_toArray, List.set_cons_succ, List.set_cons_zero, pickOps, List.getElem?_cons_zero, List.getElem?_cons_succ]
              have htk := Take_typed tr B6 m d6 uu (k : Int) da dn dc (cutAt X k) la lnn lc (proofL ((cutL X).map leafS) k) W ((Hg.out.below Hw.out).below hbW) (HTu.out.lst.below hbW) (by omega) (Hyd.out.below hbW) (by omega) (Hyl.out.below hbW) hylc (by omega)
              rw [Htk1.out, ← Hnn.out] at htk
              have Htk2 := Lib.hid htk
              clear htk hW
              intro K hK
              go_simp
              refine Htk2.out.mono ?_
              rintro e W3 ⟨A8, c8, rfl, _, hT8, hb8⟩
              refine hK _ _ rfl (by simp) hb8 ?_
              have HT8 := Lib.hid (hT8 (HTu.out.below hbW))
              have Hb8 := Lib.hid (hbW.trans (hb8.mono hbW.size))
              clear hK K Htk2 hT8 hb8 hbW
              intro y3 W4 hW4
              simp only [Act.put, List.setIfInBounds_toArray, List.set_cons_succ, List.set_cons_zero, chainP, finP, pickOps, List.getElem?_cons_zero, List.getElem?_cons_succ]
              repeat (go_big_quiet_step (fail))
              refine wpQuiet_nil ?_
              refine ⟨rfl, by simp, fun B W5 hB hb5 hblk => ⟨_, rfl, by simp [fetchC_len], fetch_one _ _ _ _, ?_⟩⟩
              have hbb := hW4.trans (hb5.mono hW4.size)
              have hb6 := Below.setRow (Hb8.out.trans (hbb.mono Hb8.out.size)) hB (fetchC tr A8 m c8).toArray
              have hT9 := ((HT8.out.below hbb).setRow hblk (cells := (fetchC tr A8 m c8).toArray))
              have hF9 : Blk (W5.setRow B (fetchC tr A8 m c8).toArray) B 35 (fetchC tr A8 m c8).toArray := setRow_heap _ _ _ _ _ _ hblk
              have Hb6 := Lib.hid hb6
              have HT9' := Lib.hid hT9
              have HF9 := Lib.hid hF9
              clear hb6 hW4 hb5 hblk Hb8 HT8 hbb hT9 hF9
              simp only [Exit.then, Act.put, List.setIfInBounds_toArray, List.set_cons_succ, List.set_cons_zero]
              go_wp2_with fail
              go_meet
              exact ⟨B, A8, c8, rfl, rfl, hB, HF9.out, HT9'.out, Hb6.out⟩
            case' rest => skip
            obtain ⟨nu, A8, c8, rfl, rfl, hlonu, hFn, hTn, hbn⟩ := hcut
            obtain ⟨wu, hwe⟩ : ∃ v, v = wc := ⟨_, rfl⟩
            subst hwe
            have HFnu := Lib.hid hFn
            have HTnu := Lib.hid hTn
            clear k0r k1r k2r Hrs hFn hTn Hyd Hyl Hnn hdn hln2 hylc
            have hlo3 := HFnb.out.lt
            replace HF := Lib.hid (HF.out.below hbn HF.out.lt)
            replace HT := Lib.hid (HT.out.below hbn)
            replace HFu := Lib.hid (HFu.out.below hbn HFu.out.lt)
            replace HTu := Lib.hid (HTu.out.below hbn)
            replace HFnb := Lib.hid (HFnb.out.below hbn HFnb.out.lt)
            replace HTnb := Lib.hid (HTnb.out.below hbn)
            replace Hw := Lib.hid (Hw.out.trans (hbn.mono Hw.out.size))
            clear hbn
            have hne1 : nb ≠ tb := by omega
            have hne2 : nu ≠ tb := by omega
            have hne3 : ub ≠ tb := by omega
            have hne4 : nu ≠ ub := by omega
            have htb := Htb.out
            have hKt := (KeptIn.refl (fun k => k ≠ tb) wu).setRow (g := tb) (fun h => h rfl) (fetchC tr A7 m c7).toArray
            obtain ⟨W1, hW1⟩ : ∃ v, v = wu.setRow tb (fetchC tr A7 m c7).toArray := ⟨_, rfl⟩
            rw [← hW1] at hKt
            have f1 : Blk W1 tb 35 (fetchC tr A7 m c7).toArray := by rw [hW1]; exact setRow_heap _ _ _ _ _ _ HF.out
            have f2 : TLst W1 A7 m hhn := by rw [hW1]; exact HTnb.out.setRow HF.out
            have f3 : Blk W1 nu 35 (fetchC tr A8 m c8).toArray := HFnu.out.keptIn hKt hne2
            have f4 : TLst W1 A8 m uun := by rw [hW1]; exact HTnu.out.setRow HF.out
            have f5 : Blk W1 ub 35 (fetchC tr B6 m d6).toArray := HFu.out.keptIn hKt hne3
            have f6 : Below wa.heap.size wa W1 := by rw [hW1]; exact Below.setRow Hw.out (show wa.heap.size ≤ tb by omega) _
            have hKu := (KeptIn.refl (fun k => k ≠ ub) W1).setRow (g := ub) (fun h => h rfl) (fetchC tr A8 m c8).toArray
            have F1 := Lib.hid (f1.keptIn hKu (fun e => hne3 e.symm))
            have F2 := Lib.hid (f2.setRow f5 (cells := (fetchC tr A8 m c8).toArray))
            have F3 := Lib.hid (show Blk (W1.setRow ub (fetchC tr A8 m c8).toArray) ub 35 (fetchC tr A8 m c8).toArray from setRow_heap _ _ _ _ _ _ f5)
            have F4 := Lib.hid (f4.setRow f5 (cells := (fetchC tr A8 m c8).toArray))
            have F6 := Lib.hid (Below.setRow f6 (show wa.heap.size ≤ ub by omega) (fetchC tr A8 m c8).toArray)
            have f3' := Lib.hid f3
            have f5' := Lib.hid f5
            clear f1 f2 f3 f4 f5 f6 hKt hKu htb
            go_upto_region 25 with (first | (refine wpList_load_mid rfl 35 (.tmp 20) rfl nb 0 rfl (fetchC tr A7 m c7) _ (fetch_range HFnb.out) hd35 hrow35 (by rw [fetchC_len]; kernel_rfl) ?_) | (refine wpList_store_row rfl 35 (.tmp 11) (.tmp 188) rfl tb (fetchC tr A7 m c7).toArray rfl rfl 35 (fetchC tr A6 m c6).toArray HF.out (size35 _ (by simp [fetchC_len])) (by simp [fetchC_len]) (fetch_one _ _ _ _) ?_))
            rw [← hW1]
            clear hW1
            go_wp2_with (first | (refine wpList_load_mid rfl 35 (.tmp 23) rfl nu 0 rfl (fetchC tr A8 m c8) _ (fetch_range f3'.out) hd35 hrow35 (by rw [fetchC_len]; kernel_rfl) ?_) | (refine wpList_store_row rfl 35 (.tmp 13) (.tmp 189) rfl ub (fetchC tr A8 m c8).toArray rfl rfl 35 (fetchC tr B6 m d6).toArray f5'.out (size35 _ (by simp [fetchC_len])) (by simp [fetchC_len]) (fetch_one _ _ _ _) ?_))
            exact ⟨⟨i + 1, A7, c7, hhn, A8, c8, uun, by go_num, by omega, F1.out, F2.out, Htk0s.out.1, fun j hj => (by
                by_cases hjk : j = i
                · subst hjk; exact Htk0s.out.2.1
                · exact Htk0s.out.2.2 j (Hfl.out j (by omega))), F3.out, F4.out, Htk1s.out.1, fun j hj hj2 => (by
                have hke := Hki.out.1
                by_cases hjk : j = k
                · subst hjk; exact Htk1s.out.2.1
                · exact Htk1s.out.2.2 j (Hfu.out j (by omega) hj2)), F6.out⟩, by simp [intOf]; omega⟩
          · have hsb2 : ((str D).toList == (str (cutAt X z)).toList) = false := by rw [hsb, decide_eq_false hDz]
            have hsb3 : ((str D).toList != (str (cutAt X z)).toList) = true := by rw [bne, hsb2]; rfl
            clear hsb hDz
            go_upto_region 17 with fail
            go_quiet (fail)
            clear hcx hcy hsb2 hsb3 k0 k1 ccz
            have hbq := below_drewN (HB.out.trans (Hw.out.mono HB.out.size)) nq
            have Hbq := Lib.hid hbq
            clear hbq
            generalize wz.drewN nq = wq at *
            go_wp2_with fail
            go_ret
            exact ⟨rfl, Hbq.out⟩
        · have hHh := HE1.out hE
          have hsm := RSame_any tr tr A7 A6 m m c7 c6 H hh wz HA.out HT.out.lst
          rw [decide_eq_true (show tr = tr ∧ H = hh from ⟨rfl, hHh⟩)] at hsm
          have Hsm := Lib.hid hsm
          have hE1 : (E == 0) = false := by rw [beq_eq_false_iff_ne]; exact hE
          have hE2 : (E != 0) = true := by rw [bne, hE1]; rfl
          clear hsm hHh hE
          go_wp2_with (first | (refine wpList_load_mid_g (by first | rfl | simp [Region.wanted, yielded]) 35 (.tmp 18) rfl xb 0 rfl (fetchC tr A7 m c7) _ (fetch_range HFxb.out) hd35 hrow35 (by rw [fetchC_len]; kernel_rfl) ?_) | (refine wpList_load_mid_g (by first | rfl | simp [Region.wanted, yielded]) 35 (.tmp 11) rfl tb 0 rfl (fetchC tr A6 m c6) _ (fetch_range HF.out) hd35 hrow35 (by rw [fetchC_len]; kernel_rfl) ?_))
          refine Hsm.out.mono ?_
          rintro e wv ⟨rfl, hb9⟩
          clear Hsm
          replace HF := Lib.hid (HF.out.below hb9 HF.out.lt)
          replace HT := Lib.hid (HT.out.below hb9)
          replace HFu := Lib.hid (HFu.out.below hb9 HFu.out.lt)
          replace HTu := Lib.hid (HTu.out.below hb9)
          replace Hw := Lib.hid (Hw.out.trans (hb9.mono Hw.out.size))
          replace HZ := Lib.hid (HZ.out.below hb9 HZ.out.lt)
          replace Hz2 := Lib.hid (Hz2.out.below hb9)
          replace Hz4 := Lib.hid (Hz4.out.below hb9)
          clear hb9
          cases R with
          | false =>
            go_upto_region 17 with fail
            go_quiet (fail)
            have hbq := below_drewN (Below.refl wv.heap.size wv) nq
            generalize wv.drewN nq = wq at *
            replace HF := Lib.hid (HF.out.below hbq HF.out.lt)
            replace HT := Lib.hid (HT.out.below hbq)
            replace HFu := Lib.hid (HFu.out.below hbq HFu.out.lt)
            replace HTu := Lib.hid (HTu.out.below hbq)
            replace Hw := Lib.hid (Hw.out.trans (hbq.mono Hw.out.size))
            clear hbq
            clear HZ Hz2 Hz4 HR1 HE HH HE0 HE1
            go_upto_region 19 with fail
            obtain ⟨bk1, ok1, y2, hA5, hy, hcy⟩ := (HK.out.below Hw.out).rd.flat_ ckV_len (by omega) (show i < m by omega)
            obtain ⟨rfl, rfl⟩ : bk = bk1 ∧ ok = ok1 := by simp at hA5; exact hA5
            clear hA5
            have hqX : i < (X.length + 1023) / 1024 := by rw [← Hm.out]; omega
            obtain ⟨hyi, hyd, hdn, hyl, hylc, hln2⟩ := (HP.out.below Hw.out).at hy hqX HXl.out.2
            obtain ⟨yi, ⟨da, dn, dc⟩, ⟨la, lnn, lc⟩⟩ := y2
            simp only at hyi hyd hyl hylc hdn hln2
            subst hyi
            have k0 : wq.cell? ⟨bk, ok + i * 3, none⟩ = some (.int .i64 (i : Int)) := hcy 0 _ rfl
            have k1 : wq.cell? ⟨bk, ok + i * 3 + 1, none⟩ = some (.slice da dn dc) := by rw [Nat.add_assoc]; exact hcy 1 _ rfl
            have k2 : wq.cell? ⟨bk, ok + i * 3 + 2, none⟩ = some (.slice la lnn lc) := by rw [Nat.add_assoc]; exact hcy 2 _ rfl
            have k0r := cell_regrown k0
            have k1r := cell_regrown k1
            have k2r := cell_regrown k2
            have Hyd := Lib.hid hyd
            have Hyl := Lib.hid hyl
            have Htk0 := Lib.hid (take_right X Hgd.out hqX)
            have Htk0s := Lib.hid (take_step X Hgd.out hqX)
            rw [← Htr.out] at Htk0 Htk0s
            obtain ⟨hhn, hnn⟩ : ∃ v, v = takeH tr hh (i : Int) (cutAt X i) (proofL ((cutL X).map leafS) i) := ⟨_, rfl⟩
            rw [← hnn] at Htk0s
            have Hnn := Lib.hid hnn
            have hrs : ∀ w', Ext wq w' → w'.rangeAt tb 0 (fetchC tr A6 m c6) := fun w' hw' => fetch_range (HF.out.below (ext_below hw') HF.out.lt)
            have Hrs := Lib.hid hrs
            clear hrs hnn hy hcy k0 k1 k2 hyd hyl hqX
            go_cut [20, 21] from 138 to 156 (fun td te wx => ∃ (B : Nat) (A8 : Option Addr) (c8 : Nat), td = .pointer (some ⟨B, 0, none⟩) ∧ te = .int .i64 0 ∧ wq.heap.size ≤ B ∧ Blk wx B 35 (fetchC tr A8 m c8).toArray ∧ TLst wx A8 m hhn ∧ Below wq.heap.size wq wx)
            case first =>
              refine wp_region_reads_tail 22 [0, 1, 2, 3, 4, 5, 6, 7, 8, 9, 10, 11, 12, 13, 14, 15] 6 (by kernel_rfl) (List.take_append_drop _ _) rfl (by kernel_rfl) (by kernel_rfl) (by kernel_rfl) (by decide) (by kernel_rfl) (by kernel_rfl) (fun _ _ d _ _ h => by cases d <;> exact h) (by kernel_rfl) (by kernel_rfl) rfl ?_
              simp only [List.take_succ_cons, List.take_zero, List.drop_succ_cons, List.drop_zero, pickOps, List.getElem?_cons_zero, List.getElem?_cons_succ]
              refine wpQuiet_load_mid rfl 35 _ rfl tb 0 rfl (fetchC tr A6 m c6) _ Hrs.out hd35 hrow35 (by rw [fetchC_len]; kernel_rfl) ?_
              simp only [Act.put, List.setIfInBounds_toArray, List.set_cons_succ, List.set_cons_zero]
              repeat (go_big_quiet_step (fail))
              refine wpQuiet_nil ?_
              clear k0r k1r k2r
              refine chain_float (w0 := wq) (d := 20) (f := 20) (s := 21) (T := 35) (Z := (fetchC z32 none 0 0).toArray) (y := .tmp 155) (is1 := [17, 18, 19]) (by kernel_rfl) (fun _ _ d _ _ h => by cases d <;> exact h) (by kernel_rfl) rfl rfl rfl rfl (fun cells h => size35 _ (h.trans (by simp [fetchC_len]))) rfl rfl rfl rfl hi35 hz35 rfl [16] _ _ _ (by kernel_rfl) rfl (ext_drew (ext_refl _)) (by simp) ?_
              intro y1 W hW
              have hbW : Below wq.heap.size wq W := ((Below.refl _ wq).drew).trans hW
              simp only [Act.put, List.setIfInBounds_toArray, List.set_cons_succ, List.set_cons_zero, pickOps, List.getElem?_cons_zero, List.getElem?_cons_succ]
              have htk := Take_typed tr A6 m c6 hh (i : Int) da dn dc (cutAt X i) la lnn lc (proofL ((cutL X).map leafS) i) W ((Hg.out.below Hw.out).below hbW) (HT.out.lst.below hbW) (by omega) (Hyd.out.below hbW) (by omega) (Hyl.out.below hbW) hylc (by omega)
              rw [Htk0.out, ← Hnn.out] at htk
              have Htk2 := Lib.hid htk
              clear htk hW
              intro K hK
              go_simp
              refine Htk2.out.mono ?_
              rintro e W3 ⟨A8, c8, rfl, _, hT8, hb8⟩
              refine hK _ _ rfl (by simp) hb8 ?_
              have HT8 := Lib.hid (hT8 (HT.out.below hbW))
              have Hb8 := Lib.hid (hbW.trans (hb8.mono hbW.size))
              clear hK K Htk2 hT8 hb8 hbW
              intro y3 W4 hW4
              simp only [Act.put, List.setIfInBounds_toArray, List.set_cons_succ, List.set_cons_zero, chainP, finP, pickOps, List.getElem?_cons_zero, List.getElem?_cons_succ]
              repeat (go_big_quiet_step (fail))
              refine wpQuiet_nil ?_
              refine ⟨rfl, by simp, fun B W5 hB hb5 hblk => ⟨_, rfl, by simp [fetchC_len], fetch_one _ _ _ _, ?_⟩⟩
              have hbb := hW4.trans (hb5.mono hW4.size)
              have hb6 := Below.setRow (Hb8.out.trans (hbb.mono Hb8.out.size)) hB (fetchC tr A8 m c8).toArray
              have hT9 := ((HT8.out.below hbb).setRow hblk (cells := (fetchC tr A8 m c8).toArray))
              have hF9 : Blk (W5.setRow B (fetchC tr A8 m c8).toArray) B 35 (fetchC tr A8 m c8).toArray := setRow_heap _ _ _ _ _ _ hblk
              have Hb6 := Lib.hid hb6
              have HT9' := Lib.hid hT9
              have HF9 := Lib.hid hF9
              clear hb6 hW4 hb5 hblk Hb8 HT8 hbb hT9 hF9
              simp only [Exit.then, Act.put, List.setIfInBounds_toArray, List.set_cons_succ, List.set_cons_zero]
              go_wp2_with fail
              go_meet
              exact ⟨B, A8, c8, rfl, rfl, hB, HF9.out, HT9'.out, Hb6.out⟩
            case' rest => skip
            obtain ⟨nb, A7, c7, rfl, rfl, hlonb, hFn, hTn, hbn⟩ := hcut
            obtain ⟨wt, hwe⟩ : ∃ v, v = wc := ⟨_, rfl⟩
            subst hwe
            have HFnb := Lib.hid hFn
            have HTnb := Lib.hid hTn
            clear k0r k1r k2r Hrs hFn hTn Hyd Hyl Hnn hdn hln2 hylc
            have hwl0 := HFu.out.lt
            have hlo2 : tb < wq.heap.size := HF.out.lt
            replace HF := Lib.hid (HF.out.below hbn HF.out.lt)
            replace HT := Lib.hid (HT.out.below hbn)
            replace HFu := Lib.hid (HFu.out.below hbn HFu.out.lt)
            replace HTu := Lib.hid (HTu.out.below hbn)
            replace Hw := Lib.hid (Hw.out.trans (hbn.mono Hw.out.size))
            clear hbn
            obtain ⟨k, hk⟩ : ∃ k, k = m - 1 - i := ⟨_, rfl⟩
            have hkm : k < m := by omega
            have hki : (m : Int) - 1 - (i : Int) = (k : Int) := by omega
            have Hki := Lib.hid (And.intro hk hki)
            clear hk hki
            go_upto_region 21 with fail
            rw [Hki.out.2]
            obtain ⟨bk1, ok1, y2, hA5, hy, hcy⟩ := (HK.out.below Hw.out).rd.flat_ ckV_len (by omega) (show k < m by omega)
            obtain ⟨rfl, rfl⟩ : bk = bk1 ∧ ok = ok1 := by simp at hA5; exact hA5
            clear hA5
            have hqX : k < (X.length + 1023) / 1024 := by rw [← Hm.out]; omega
            obtain ⟨hyi, hyd, hdn, hyl, hylc, hln2⟩ := (HP.out.below Hw.out).at hy hqX HXl.out.2
            obtain ⟨yi, ⟨da, dn, dc⟩, ⟨la, lnn, lc⟩⟩ := y2
            simp only at hyi hyd hyl hylc hdn hln2
            subst hyi
            have k0 : wt.cell? ⟨bk, ok + k * 3, none⟩ = some (.int .i64 (k : Int)) := hcy 0 _ rfl
            have k1 : wt.cell? ⟨bk, ok + k * 3 + 1, none⟩ = some (.slice da dn dc) := by rw [Nat.add_assoc]; exact hcy 1 _ rfl
            have k2 : wt.cell? ⟨bk, ok + k * 3 + 2, none⟩ = some (.slice la lnn lc) := by rw [Nat.add_assoc]; exact hcy 2 _ rfl
            have k0r := cell_regrown k0
            have k1r := cell_regrown k1
            have k2r := cell_regrown k2
            have Hyd := Lib.hid hyd
            have Hyl := Lib.hid hyl
            have Htk1 := Lib.hid (take_right X Hgu.out hqX)
            have Htk1s := Lib.hid (take_step X Hgu.out hqX)
            rw [← Htr.out] at Htk1 Htk1s
            obtain ⟨uun, hnn⟩ : ∃ v, v = takeH tr uu (k : Int) (cutAt X k) (proofL ((cutL X).map leafS) k) := ⟨_, rfl⟩
            rw [← hnn] at Htk1s
            have Hnn := Lib.hid hnn
            have hrs : ∀ w', Ext wt w' → w'.rangeAt ub 0 (fetchC tr B6 m d6) := fun w' hw' => fetch_range (HFu.out.below (ext_below hw') HFu.out.lt)
            have Hrs := Lib.hid hrs
            clear hrs hnn hy hcy k0 k1 k2 hyd hyl hqX
            go_cut [23, 24] from 163 to 181 (fun td te wx => ∃ (B : Nat) (A8 : Option Addr) (c8 : Nat), td = .pointer (some ⟨B, 0, none⟩) ∧ te = .int .i64 0 ∧ wt.heap.size ≤ B ∧ Blk wx B 35 (fetchC tr A8 m c8).toArray ∧ TLst wx A8 m uun ∧ Below wt.heap.size wt wx)
            case first =>
              refine wp_region_reads_tail 22 [0, 1, 2, 3, 4, 5, 6, 7, 8, 9, 10, 11, 12, 13, 14, 15] 6 (by kernel_rfl) (List.take_append_drop _ _) rfl (by kernel_rfl) (by kernel_rfl) (by kernel_rfl) (by decide) (by kernel_rfl) (by kernel_rfl) (fun _ _ d _ _ h => by cases d <;> exact h) (by kernel_rfl) (by kernel_rfl) rfl ?_
              simp only [List.take_succ_cons, List.take_zero, List.drop_succ_cons, List.drop_zero, pickOps, List.getElem?_cons_zero, List.getElem?_cons_succ]
              refine wpQuiet_load_mid rfl 35 _ rfl ub 0 rfl (fetchC tr B6 m d6) _ Hrs.out hd35 hrow35 (by rw [fetchC_len]; kernel_rfl) ?_
              simp only [Act.put, List.setIfInBounds_toArray, List.set_cons_succ, List.set_cons_zero]
              repeat (go_big_quiet_step (fail))
              refine wpQuiet_nil ?_
              clear k0r k1r k2r
              refine chain_float (w0 := wt) (d := 23) (f := 20) (s := 21) (T := 35) (Z := (fetchC z32 none 0 0).toArray) (y := .tmp 180) (is1 := [17, 18, 19]) (by kernel_rfl) (fun _ _ d _ _ h => by cases d <;> exact h) (by kernel_rfl) rfl rfl rfl rfl (fun cells h => size35 _ (h.trans (by simp [fetchC_len]))) rfl rfl rfl rfl hi35 hz35 rfl [16] _ _ _ (by kernel_rfl) rfl (ext_drew (ext_refl _)) (by simp) ?_
              intro y1 W hW
              have hbW : Below wt.heap.size wt W := ((Below.refl _ wt).drew).trans hW
              simp only [Act.put, List.setIfInBounds_toArray, List.set_cons_succ, List.set_cons_zero, pickOps, List.getElem?_cons_zero, List.getElem?_cons_succ]
              have htk := Take_typed tr B6 m d6 uu (k : Int) da dn dc (cutAt X k) la lnn lc (proofL ((cutL X).map leafS) k) W ((Hg.out.below Hw.out).below hbW) (HTu.out.lst.below hbW) (by omega) (Hyd.out.below hbW) (by omega) (Hyl.out.below hbW) hylc (by omega)
              rw [Htk1.out, ← Hnn.out] at htk
              have Htk2 := Lib.hid htk
              clear htk hW
              intro K hK
              go_simp
              refine Htk2.out.mono ?_
              rintro e W3 ⟨A8, c8, rfl, _, hT8, hb8⟩
              refine hK _ _ rfl (by simp) hb8 ?_
              have HT8 := Lib.hid (hT8 (HTu.out.below hbW))
              have Hb8 := Lib.hid (hbW.trans (hb8.mono hbW.size))
              clear hK K Htk2 hT8 hb8 hbW
              intro y3 W4 hW4
              simp only [Act.put, List.setIfInBounds_toArray, List.set_cons_succ, List.set_cons_zero, chainP, finP, pickOps, List.getElem?_cons_zero, List.getElem?_cons_succ]
              repeat (go_big_quiet_step (fail))
              refine wpQuiet_nil ?_
              refine ⟨rfl, by simp, fun B W5 hB hb5 hblk => ⟨_, rfl, by simp [fetchC_len], fetch_one _ _ _ _, ?_⟩⟩
              have hbb := hW4.trans (hb5.mono hW4.size)
              have hb6 := Below.setRow (Hb8.out.trans (hbb.mono Hb8.out.size)) hB (fetchC tr A8 m c8).toArray
              have hT9 := ((HT8.out.below hbb).setRow hblk (cells := (fetchC tr A8 m c8).toArray))
              have hF9 : Blk (W5.setRow B (fetchC tr A8 m c8).toArray) B 35 (fetchC tr A8 m c8).toArray := setRow_heap _ _ _ _ _ _ hblk
              have Hb6 := Lib.hid hb6
              have HT9' := Lib.hid hT9
              have HF9 := Lib.hid hF9
              clear hb6 hW4 hb5 hblk Hb8 HT8 hbb hT9 hF9
              simp only [Exit.then, Act.put, List.setIfInBounds_toArray, List.set_cons_succ, List.set_cons_zero]
              go_wp2_with fail
              go_meet
              exact ⟨B, A8, c8, rfl, rfl, hB, HF9.out, HT9'.out, Hb6.out⟩
            case' rest => skip
            obtain ⟨nu, A8, c8, rfl, rfl, hlonu, hFn, hTn, hbn⟩ := hcut
            obtain ⟨wu, hwe⟩ : ∃ v, v = wc := ⟨_, rfl⟩
            subst hwe
            have HFnu := Lib.hid hFn
            have HTnu := Lib.hid hTn
            clear k0r k1r k2r Hrs hFn hTn Hyd Hyl Hnn hdn hln2 hylc
            have hlo3 := HFnb.out.lt
            replace HF := Lib.hid (HF.out.below hbn HF.out.lt)
            replace HT := Lib.hid (HT.out.below hbn)
            replace HFu := Lib.hid (HFu.out.below hbn HFu.out.lt)
            replace HTu := Lib.hid (HTu.out.below hbn)
            replace HFnb := Lib.hid (HFnb.out.below hbn HFnb.out.lt)
            replace HTnb := Lib.hid (HTnb.out.below hbn)
            replace Hw := Lib.hid (Hw.out.trans (hbn.mono Hw.out.size))
            clear hbn
            have hne1 : nb ≠ tb := by omega
            have hne2 : nu ≠ tb := by omega
            have hne3 : ub ≠ tb := by omega
            have hne4 : nu ≠ ub := by omega
            have htb := Htb.out
            have hKt := (KeptIn.refl (fun k => k ≠ tb) wu).setRow (g := tb) (fun h => h rfl) (fetchC tr A7 m c7).toArray
            obtain ⟨W1, hW1⟩ : ∃ v, v = wu.setRow tb (fetchC tr A7 m c7).toArray := ⟨_, rfl⟩
            rw [← hW1] at hKt
            have f1 : Blk W1 tb 35 (fetchC tr A7 m c7).toArray := by rw [hW1]; exact setRow_heap _ _ _ _ _ _ HF.out
            have f2 : TLst W1 A7 m hhn := by rw [hW1]; exact HTnb.out.setRow HF.out
            have f3 : Blk W1 nu 35 (fetchC tr A8 m c8).toArray := HFnu.out.keptIn hKt hne2
            have f4 : TLst W1 A8 m uun := by rw [hW1]; exact HTnu.out.setRow HF.out
            have f5 : Blk W1 ub 35 (fetchC tr B6 m d6).toArray := HFu.out.keptIn hKt hne3
            have f6 : Below wa.heap.size wa W1 := by rw [hW1]; exact Below.setRow Hw.out (show wa.heap.size ≤ tb by omega) _
            have hKu := (KeptIn.refl (fun k => k ≠ ub) W1).setRow (g := ub) (fun h => h rfl) (fetchC tr A8 m c8).toArray
            have F1 := Lib.hid (f1.keptIn hKu (fun e => hne3 e.symm))
            have F2 := Lib.hid (f2.setRow f5 (cells := (fetchC tr A8 m c8).toArray))
            have F3 := Lib.hid (show Blk (W1.setRow ub (fetchC tr A8 m c8).toArray) ub 35 (fetchC tr A8 m c8).toArray from setRow_heap _ _ _ _ _ _ f5)
            have F4 := Lib.hid (f4.setRow f5 (cells := (fetchC tr A8 m c8).toArray))
            have F6 := Lib.hid (Below.setRow f6 (show wa.heap.size ≤ ub by omega) (fetchC tr A8 m c8).toArray)
            have f3' := Lib.hid f3
            have f5' := Lib.hid f5
            clear f1 f2 f3 f4 f5 f6 hKt hKu htb
            go_upto_region 25 with (first | (refine wpList_load_mid rfl 35 (.tmp 20) rfl nb 0 rfl (fetchC tr A7 m c7) _ (fetch_range HFnb.out) hd35 hrow35 (by rw [fetchC_len]; kernel_rfl) ?_) | (refine wpList_store_row rfl 35 (.tmp 11) (.tmp 188) rfl tb (fetchC tr A7 m c7).toArray rfl rfl 35 (fetchC tr A6 m c6).toArray HF.out (size35 _ (by simp [fetchC_len])) (by simp [fetchC_len]) (fetch_one _ _ _ _) ?_))
            rw [← hW1]
            clear hW1
            go_wp2_with (first | (refine wpList_load_mid rfl 35 (.tmp 23) rfl nu 0 rfl (fetchC tr A8 m c8) _ (fetch_range f3'.out) hd35 hrow35 (by rw [fetchC_len]; kernel_rfl) ?_) | (refine wpList_store_row rfl 35 (.tmp 13) (.tmp 189) rfl ub (fetchC tr A8 m c8).toArray rfl rfl 35 (fetchC tr B6 m d6).toArray f5'.out (size35 _ (by simp [fetchC_len])) (by simp [fetchC_len]) (fetch_one _ _ _ _) ?_))
            exact ⟨⟨i + 1, A7, c7, hhn, A8, c8, uun, by go_num, by omega, F1.out, F2.out, Htk0s.out.1, fun j hj => (by
                by_cases hjk : j = i
                · subst hjk; exact Htk0s.out.2.1
                · exact Htk0s.out.2.2 j (Hfl.out j (by omega))), F3.out, F4.out, Htk1s.out.1, fun j hj hj2 => (by
                have hke := Hki.out.1
                by_cases hjk : j = k
                · subst hjk; exact Htk1s.out.2.1
                · exact Htk1s.out.2.2 j (Hfu.out j (by omega) hj2)), F6.out⟩, by simp [intOf]; omega⟩
          | true =>
            obtain ⟨hz0, hzm⟩ := HR1.out rfl
            obtain ⟨z, rfl⟩ : ∃ z : Nat, zi = (z : Int) := ⟨zi.toNat, by omega⟩
            have hzm' : z < m := by omega
            have k0 : wv.cell? ⟨B, 0, none⟩ = some (.int .i64 (z : Int)) := by rw [HZ.out.cell]; rfl
            have k1 : wv.cell? ⟨B, 1, none⟩ = some (.slice za zn zc) := by rw [HZ.out.cell]; rfl
            obtain ⟨bz, oz, vz, cz, rfl, hcz, ccz, hrz, _⟩ := (HL3.out.below Hw.out).at_ hzm'
            rw [cutL_get X (by rw [← Hm.out]; exact hzm')] at hcz
            obtain rfl : cutAt X z = cz := Option.some.inj hcz
            have hcx : ∀ j, (convert 22 9 (.slice za zn zc)).run Tryd.prog (wv.drewN j) = .ok (.string (str D)) (wv.drewN j) := fun j => convert_bytes za zn zc D _ (Hz2.out.drewN j)
            have hcy : ∀ j, (convert 22 9 (.slice vz.a vz.n vz.c)).run Tryd.prog (wv.drewN j) = .ok (.string (str (cutAt X z))) (wv.drewN j) := fun j => convert_bytes vz.a vz.n vz.c (cutAt X z) _ (hrz.drewN j)
            have hsb := str_beq D (cutAt X z)
            clear hcz hrz
            by_cases hDz : D = cutAt X z
            · have hsb2 : ((str D).toList == (str (cutAt X z)).toList) = true := by rw [hsb, decide_eq_true hDz]
              have hsb3 : ((str D).toList != (str (cutAt X z)).toList) = false := by rw [bne, hsb2]; rfl
              clear hsb hDz
              go_upto_region 17 with fail
              go_quiet (fail)
              clear hcx hcy hsb2 hsb3 k0 k1 ccz
              have hbq := below_drewN (Below.refl wv.heap.size wv) nq
              generalize wv.drewN nq = wq at *
              replace HF := Lib.hid (HF.out.below hbq HF.out.lt)
              replace HT := Lib.hid (HT.out.below hbq)
              replace HFu := Lib.hid (HFu.out.below hbq HFu.out.lt)
              replace HTu := Lib.hid (HTu.out.below hbq)
              replace Hw := Lib.hid (Hw.out.trans (hbq.mono Hw.out.size))
              clear hbq
              clear HZ Hz2 Hz4 HR1 HE HH HE0 HE1
              go_upto_region 19 with fail
              obtain ⟨bk1, ok1, y2, hA5, hy, hcy⟩ := (HK.out.below Hw.out).rd.flat_ ckV_len (by omega) (show i < m by omega)
              obtain ⟨rfl, rfl⟩ : bk = bk1 ∧ ok = ok1 := by simp at hA5; exact hA5
              clear hA5
              have hqX : i < (X.length + 1023) / 1024 := by rw [← Hm.out]; omega
              obtain ⟨hyi, hyd, hdn, hyl, hylc, hln2⟩ := (HP.out.below Hw.out).at hy hqX HXl.out.2
              obtain ⟨yi, ⟨da, dn, dc⟩, ⟨la, lnn, lc⟩⟩ := y2
              simp only at hyi hyd hyl hylc hdn hln2
              subst hyi
              have k0 : wq.cell? ⟨bk, ok + i * 3, none⟩ = some (.int .i64 (i : Int)) := hcy 0 _ rfl
              have k1 : wq.cell? ⟨bk, ok + i * 3 + 1, none⟩ = some (.slice da dn dc) := by rw [Nat.add_assoc]; exact hcy 1 _ rfl
              have k2 : wq.cell? ⟨bk, ok + i * 3 + 2, none⟩ = some (.slice la lnn lc) := by rw [Nat.add_assoc]; exact hcy 2 _ rfl
              have k0r := cell_regrown k0
              have k1r := cell_regrown k1
              have k2r := cell_regrown k2
              have Hyd := Lib.hid hyd
              have Hyl := Lib.hid hyl
              have Htk0 := Lib.hid (take_right X Hgd.out hqX)
              have Htk0s := Lib.hid (take_step X Hgd.out hqX)
              rw [← Htr.out] at Htk0 Htk0s
              obtain ⟨hhn, hnn⟩ : ∃ v, v = takeH tr hh (i : Int) (cutAt X i) (proofL ((cutL X).map leafS) i) := ⟨_, rfl⟩
              rw [← hnn] at Htk0s
              have Hnn := Lib.hid hnn
              have hrs : ∀ w', Ext wq w' → w'.rangeAt tb 0 (fetchC tr A6 m c6) := fun w' hw' => fetch_range (HF.out.below (ext_below hw') HF.out.lt)
              have Hrs := Lib.hid hrs
              clear hrs hnn hy hcy k0 k1 k2 hyd hyl hqX
              go_cut [20, 21] from 138 to 156 (fun td te wx => ∃ (B : Nat) (A8 : Option Addr) (c8 : Nat), td = .pointer (some ⟨B, 0, none⟩) ∧ te = .int .i64 0 ∧ wq.heap.size ≤ B ∧ Blk wx B 35 (fetchC tr A8 m c8).toArray ∧ TLst wx A8 m hhn ∧ Below wq.heap.size wq wx)
              case first =>
                refine wp_region_reads_tail 22 [0, 1, 2, 3, 4, 5, 6, 7, 8, 9, 10, 11, 12, 13, 14, 15] 6 (by kernel_rfl) (List.take_append_drop _ _) rfl (by kernel_rfl) (by kernel_rfl) (by kernel_rfl) (by decide) (by kernel_rfl) (by kernel_rfl) (fun _ _ d _ _ h => by cases d <;> exact h) (by kernel_rfl) (by kernel_rfl) rfl ?_
                simp only [List.take_succ_cons, List.take_zero, List.drop_succ_cons, List.drop_zero, pickOps, List.getElem?_cons_zero, List.getElem?_cons_succ]
                refine wpQuiet_load_mid rfl 35 _ rfl tb 0 rfl (fetchC tr A6 m c6) _ Hrs.out hd35 hrow35 (by rw [fetchC_len]; kernel_rfl) ?_
                simp only [Act.put, List.setIfInBounds_toArray, List.set_cons_succ, List.set_cons_zero]
                repeat (go_big_quiet_step (fail))
                refine wpQuiet_nil ?_
                clear k0r k1r k2r
                refine chain_float (w0 := wq) (d := 20) (f := 20) (s := 21) (T := 35) (Z := (fetchC z32 none 0 0).toArray) (y := .tmp 155) (is1 := [17, 18, 19]) (by kernel_rfl) (fun _ _ d _ _ h => by cases d <;> exact h) (by kernel_rfl) rfl rfl rfl rfl (fun cells h => size35 _ (h.trans (by simp [fetchC_len]))) rfl rfl rfl rfl hi35 hz35 rfl [16] _ _ _ (by kernel_rfl) rfl (ext_drew (ext_refl _)) (by simp) ?_
                intro y1 W hW
                have hbW : Below wq.heap.size wq W := ((Below.refl _ wq).drew).trans hW
                simp only [Act.put, List.setIfInBounds_toArray, List.set_cons_succ, List.set_cons_zero, pickOps, List.getElem?_cons_zero, List.getElem?_cons_succ]
                have htk := Take_typed tr A6 m c6 hh (i : Int) da dn dc (cutAt X i) la lnn lc (proofL ((cutL X).map leafS) i) W ((Hg.out.below Hw.out).below hbW) (HT.out.lst.below hbW) (by omega) (Hyd.out.below hbW) (by omega) (Hyl.out.below hbW) hylc (by omega)
                rw [Htk0.out, ← Hnn.out] at htk
                have Htk2 := Lib.hid htk
                clear htk hW
                intro K hK
                go_simp
                refine Htk2.out.mono ?_
                rintro e W3 ⟨A8, c8, rfl, _, hT8, hb8⟩
                refine hK _ _ rfl (by simp) hb8 ?_
                have HT8 := Lib.hid (hT8 (HT.out.below hbW))
                have Hb8 := Lib.hid (hbW.trans (hb8.mono hbW.size))
                clear hK K Htk2 hT8 hb8 hbW
                intro y3 W4 hW4
                simp only [Act.put, List.setIfInBounds_toArray, List.set_cons_succ, List.set_cons_zero, chainP, finP, pickOps, List.getElem?_cons_zero, List.getElem?_cons_succ]
                repeat (go_big_quiet_step (fail))
                refine wpQuiet_nil ?_
                refine ⟨rfl, by simp, fun B W5 hB hb5 hblk => ⟨_, rfl, by simp [fetchC_len], fetch_one _ _ _ _, ?_⟩⟩
                have hbb := hW4.trans (hb5.mono hW4.size)
                have hb6 := Below.setRow (Hb8.out.trans (hbb.mono Hb8.out.size)) hB (fetchC tr A8 m c8).toArray
                have hT9 := ((HT8.out.below hbb).setRow hblk (cells := (fetchC tr A8 m c8).toArray))
                have hF9 : Blk (W5.setRow B (fetchC tr A8 m c8).toArray) B 35 (fetchC tr A8 m c8).toArray := setRow_heap _ _ _ _ _ _ hblk
                have Hb6 := Lib.hid hb6
                have HT9' := Lib.hid hT9
                have HF9 := Lib.hid hF9
                clear hb6 hW4 hb5 hblk Hb8 HT8 hbb hT9 hF9
                simp only [Exit.then, Act.put, List.setIfInBounds_toArray, List.set_cons_succ, List.set_cons_zero]
                go_wp2_with fail
                go_meet
                exact ⟨B, A8, c8, rfl, rfl, hB, HF9.out, HT9'.out, Hb6.out⟩
              case' rest => skip
              obtain ⟨nb, A7, c7, rfl, rfl, hlonb, hFn, hTn, hbn⟩ := hcut
              obtain ⟨wt, hwe⟩ : ∃ v, v = wc := ⟨_, rfl⟩
              subst hwe
              have HFnb := Lib.hid hFn
              have HTnb := Lib.hid hTn
              clear k0r k1r k2r Hrs hFn hTn Hyd Hyl Hnn hdn hln2 hylc
              have hwl0 := HFu.out.lt
              have hlo2 : tb < wq.heap.size := HF.out.lt
              replace HF := Lib.hid (HF.out.below hbn HF.out.lt)
              replace HT := Lib.hid (HT.out.below hbn)
              replace HFu := Lib.hid (HFu.out.below hbn HFu.out.lt)
              replace HTu := Lib.hid (HTu.out.below hbn)
              replace Hw := Lib.hid (Hw.out.trans (hbn.mono Hw.out.size))
              clear hbn
              obtain ⟨k, hk⟩ : ∃ k, k = m - 1 - i := ⟨_, rfl⟩
              have hkm : k < m := by omega
              have hki : (m : Int) - 1 - (i : Int) = (k : Int) := by omega
              have Hki := Lib.hid (And.intro hk hki)
              clear hk hki
              go_upto_region 21 with fail
              rw [Hki.out.2]
              obtain ⟨bk1, ok1, y2, hA5, hy, hcy⟩ := (HK.out.below Hw.out).rd.flat_ ckV_len (by omega) (show k < m by omega)
              obtain ⟨rfl, rfl⟩ : bk = bk1 ∧ ok = ok1 := by simp at hA5; exact hA5
              clear hA5
              have hqX : k < (X.length + 1023) / 1024 := by rw [← Hm.out]; omega
              obtain ⟨hyi, hyd, hdn, hyl, hylc, hln2⟩ := (HP.out.below Hw.out).at hy hqX HXl.out.2
              obtain ⟨yi, ⟨da, dn, dc⟩, ⟨la, lnn, lc⟩⟩ := y2
              simp only at hyi hyd hyl hylc hdn hln2
              subst hyi
              have k0 : wt.cell? ⟨bk, ok + k * 3, none⟩ = some (.int .i64 (k : Int)) := hcy 0 _ rfl
              have k1 : wt.cell? ⟨bk, ok + k * 3 + 1, none⟩ = some (.slice da dn dc) := by rw [Nat.add_assoc]; exact hcy 1 _ rfl
              have k2 : wt.cell? ⟨bk, ok + k * 3 + 2, none⟩ = some (.slice la lnn lc) := by rw [Nat.add_assoc]; exact hcy 2 _ rfl
              have k0r := cell_regrown k0
              have k1r := cell_regrown k1
              have k2r := cell_regrown k2
              have Hyd := Lib.hid hyd
              have Hyl := Lib.hid hyl
              have Htk1 := Lib.hid (take_right X Hgu.out hqX)
              have Htk1s := Lib.hid (take_step X Hgu.out hqX)
              rw [← Htr.out] at Htk1 Htk1s
              obtain ⟨uun, hnn⟩ : ∃ v, v = takeH tr uu (k : Int) (cutAt X k) (proofL ((cutL X).map leafS) k) := ⟨_, rfl⟩
              rw [← hnn] at Htk1s
              have Hnn := Lib.hid hnn
              have hrs : ∀ w', Ext wt w' → w'.rangeAt ub 0 (fetchC tr B6 m d6) := fun w' hw' => fetch_range (HFu.out.below (ext_below hw') HFu.out.lt)
              have Hrs := Lib.hid hrs
              clear hrs hnn hy hcy k0 k1 k2 hyd hyl hqX
              go_cut [23, 24] from 163 to 181 (fun td te wx => ∃ (B : Nat) (A8 : Option Addr) (c8 : Nat), td = .pointer (some ⟨B, 0, none⟩) ∧ te = .int .i64 0 ∧ wt.heap.size ≤ B ∧ Blk wx B 35 (fetchC tr A8 m c8).toArray ∧ TLst wx A8 m uun ∧ Below wt.heap.size wt wx)
              case first =>
                refine wp_region_reads_tail 22 [0, 1, 2, 3, 4, 5, 6, 7, 8, 9, 10, 11, 12, 13, 14, 15] 6 (by kernel_rfl) (List.take_append_drop _ _) rfl (by kernel_rfl) (by kernel_rfl) (by kernel_rfl) (by decide) (by kernel_rfl) (by kernel_rfl) (fun _ _ d _ _ h => by cases d <;> exact h) (by kernel_rfl) (by kernel_rfl) rfl ?_
                simp only [List.take_succ_cons, List.take_zero, List.drop_succ_cons, List.drop_zero, pickOps, List.getElem?_cons_zero, List.getElem?_cons_succ]
                refine wpQuiet_load_mid rfl 35 _ rfl ub 0 rfl (fetchC tr B6 m d6) _ Hrs.out hd35 hrow35 (by rw [fetchC_len]; kernel_rfl) ?_
                simp only [Act.put, List.setIfInBounds_toArray, List.set_cons_succ, List.set_cons_zero]
                repeat (go_big_quiet_step (fail))
                refine wpQuiet_nil ?_
                clear k0r k1r k2r
                refine chain_float (w0 := wt) (d := 23) (f := 20) (s := 21) (T := 35) (Z := (fetchC z32 none 0 0).toArray) (y := .tmp 180) (is1 := [17, 18, 19]) (by kernel_rfl) (fun _ _ d _ _ h => by cases d <;> exact h) (by kernel_rfl) rfl rfl rfl rfl (fun cells h => size35 _ (h.trans (by simp [fetchC_len]))) rfl rfl rfl rfl hi35 hz35 rfl [16] _ _ _ (by kernel_rfl) rfl (ext_drew (ext_refl _)) (by simp) ?_
                intro y1 W hW
                have hbW : Below wt.heap.size wt W := ((Below.refl _ wt).drew).trans hW
                simp only [Act.put, List.setIfInBounds_toArray, List.set_cons_succ, List.set_cons_zero, pickOps, List.getElem?_cons_zero, List.getElem?_cons_succ]
                have htk := Take_typed tr B6 m d6 uu (k : Int) da dn dc (cutAt X k) la lnn lc (proofL ((cutL X).map leafS) k) W ((Hg.out.below Hw.out).below hbW) (HTu.out.lst.below hbW) (by omega) (Hyd.out.below hbW) (by omega) (Hyl.out.below hbW) hylc (by omega)
                rw [Htk1.out, ← Hnn.out] at htk
                have Htk2 := Lib.hid htk
                clear htk hW
                intro K hK
                go_simp
                refine Htk2.out.mono ?_
                rintro e W3 ⟨A8, c8, rfl, _, hT8, hb8⟩
                refine hK _ _ rfl (by simp) hb8 ?_
                have HT8 := Lib.hid (hT8 (HTu.out.below hbW))
                have Hb8 := Lib.hid (hbW.trans (hb8.mono hbW.size))
                clear hK K Htk2 hT8 hb8 hbW
                intro y3 W4 hW4
                simp only [Act.put, List.setIfInBounds_toArray, List.set_cons_succ, List.set_cons_zero, chainP, finP, pickOps, List.getElem?_cons_zero, List.getElem?_cons_succ]
                repeat (go_big_quiet_step (fail))
                refine wpQuiet_nil ?_
                refine ⟨rfl, by simp, fun B W5 hB hb5 hblk => ⟨_, rfl, by simp [fetchC_len], fetch_one _ _ _ _, ?_⟩⟩
                have hbb := hW4.trans (hb5.mono hW4.size)
                have hb6 := Below.setRow (Hb8.out.trans (hbb.mono Hb8.out.size)) hB (fetchC tr A8 m c8).toArray
                have hT9 := ((HT8.out.below hbb).setRow hblk (cells := (fetchC tr A8 m c8).toArray))
                have hF9 : Blk (W5.setRow B (fetchC tr A8 m c8).toArray) B 35 (fetchC tr A8 m c8).toArray := setRow_heap _ _ _ _ _ _ hblk
                have Hb6 := Lib.hid hb6
                have HT9' := Lib.hid hT9
                have HF9 := Lib.hid hF9
                clear hb6 hW4 hb5 hblk Hb8 HT8 hbb hT9 hF9
                simp only [Exit.then, Act.put, List.setIfInBounds_toArray, List.set_cons_succ, List.set_cons_zero]
                go_wp2_with fail
                go_meet
                exact ⟨B, A8, c8, rfl, rfl, hB, HF9.out, HT9'.out, Hb6.out⟩
              case' rest => skip
              obtain ⟨nu, A8, c8, rfl, rfl, hlonu, hFn, hTn, hbn⟩ := hcut
              obtain ⟨wu, hwe⟩ : ∃ v, v = wc := ⟨_, rfl⟩
              subst hwe
              have HFnu := Lib.hid hFn
              have HTnu := Lib.hid hTn
              clear k0r k1r k2r Hrs hFn hTn Hyd Hyl Hnn hdn hln2 hylc
              have hlo3 := HFnb.out.lt
              replace HF := Lib.hid (HF.out.below hbn HF.out.lt)
              replace HT := Lib.hid (HT.out.below hbn)
              replace HFu := Lib.hid (HFu.out.below hbn HFu.out.lt)
              replace HTu := Lib.hid (HTu.out.below hbn)
              replace HFnb := Lib.hid (HFnb.out.below hbn HFnb.out.lt)
              replace HTnb := Lib.hid (HTnb.out.below hbn)
              replace Hw := Lib.hid (Hw.out.trans (hbn.mono Hw.out.size))
              clear hbn
              have hne1 : nb ≠ tb := by omega
              have hne2 : nu ≠ tb := by omega
              have hne3 : ub ≠ tb := by omega
              have hne4 : nu ≠ ub := by omega
              have htb := Htb.out
              have hKt := (KeptIn.refl (fun k => k ≠ tb) wu).setRow (g := tb) (fun h => h rfl) (fetchC tr A7 m c7).toArray
              obtain ⟨W1, hW1⟩ : ∃ v, v = wu.setRow tb (fetchC tr A7 m c7).toArray := ⟨_, rfl⟩
              rw [← hW1] at hKt
              have f1 : Blk W1 tb 35 (fetchC tr A7 m c7).toArray := by rw [hW1]; exact setRow_heap _ _ _ _ _ _ HF.out
              have f2 : TLst W1 A7 m hhn := by rw [hW1]; exact HTnb.out.setRow HF.out
              have f3 : Blk W1 nu 35 (fetchC tr A8 m c8).toArray := HFnu.out.keptIn hKt hne2
              have f4 : TLst W1 A8 m uun := by rw [hW1]; exact HTnu.out.setRow HF.out
              have f5 : Blk W1 ub 35 (fetchC tr B6 m d6).toArray := HFu.out.keptIn hKt hne3
              have f6 : Below wa.heap.size wa W1 := by rw [hW1]; exact Below.setRow Hw.out (show wa.heap.size ≤ tb by omega) _
              have hKu := (KeptIn.refl (fun k => k ≠ ub) W1).setRow (g := ub) (fun h => h rfl) (fetchC tr A8 m c8).toArray
              have F1 := Lib.hid (f1.keptIn hKu (fun e => hne3 e.symm))
              have F2 := Lib.hid (f2.setRow f5 (cells := (fetchC tr A8 m c8).toArray))
              have F3 := Lib.hid (show Blk (W1.setRow ub (fetchC tr A8 m c8).toArray) ub 35 (fetchC tr A8 m c8).toArray from setRow_heap _ _ _ _ _ _ f5)
              have F4 := Lib.hid (f4.setRow f5 (cells := (fetchC tr A8 m c8).toArray))
              have F6 := Lib.hid (Below.setRow f6 (show wa.heap.size ≤ ub by omega) (fetchC tr A8 m c8).toArray)
              have f3' := Lib.hid f3
              have f5' := Lib.hid f5
              clear f1 f2 f3 f4 f5 f6 hKt hKu htb
              go_upto_region 25 with (first | (refine wpList_load_mid rfl 35 (.tmp 20) rfl nb 0 rfl (fetchC tr A7 m c7) _ (fetch_range HFnb.out) hd35 hrow35 (by rw [fetchC_len]; kernel_rfl) ?_) | (refine wpList_store_row rfl 35 (.tmp 11) (.tmp 188) rfl tb (fetchC tr A7 m c7).toArray rfl rfl 35 (fetchC tr A6 m c6).toArray HF.out (size35 _ (by simp [fetchC_len])) (by simp [fetchC_len]) (fetch_one _ _ _ _) ?_))
              rw [← hW1]
              clear hW1
              go_wp2_with (first | (refine wpList_load_mid rfl 35 (.tmp 23) rfl nu 0 rfl (fetchC tr A8 m c8) _ (fetch_range f3'.out) hd35 hrow35 (by rw [fetchC_len]; kernel_rfl) ?_) | (refine wpList_store_row rfl 35 (.tmp 13) (.tmp 189) rfl ub (fetchC tr A8 m c8).toArray rfl rfl 35 (fetchC tr B6 m d6).toArray f5'.out (size35 _ (by simp [fetchC_len])) (by simp [fetchC_len]) (fetch_one _ _ _ _) ?_))
              exact ⟨⟨i + 1, A7, c7, hhn, A8, c8, uun, by go_num, by omega, F1.out, F2.out, Htk0s.out.1, fun j hj => (by
                  by_cases hjk : j = i
                  · subst hjk; exact Htk0s.out.2.1
                  · exact Htk0s.out.2.2 j (Hfl.out j (by omega))), F3.out, F4.out, Htk1s.out.1, fun j hj hj2 => (by
                  have hke := Hki.out.1
                  by_cases hjk : j = k
                  · subst hjk; exact Htk1s.out.2.1
                  · exact Htk1s.out.2.2 j (Hfu.out j (by omega) hj2)), F6.out⟩, by simp [intOf]; omega⟩
            · have hsb2 : ((str D).toList == (str (cutAt X z)).toList) = false := by rw [hsb, decide_eq_false hDz]
              have hsb3 : ((str D).toList != (str (cutAt X z)).toList) = true := by rw [bne, hsb2]; rfl
              clear hsb hDz
              go_upto_region 17 with fail
              go_quiet (fail)
              clear hcx hcy hsb2 hsb3 k0 k1 ccz
              have hbq := below_drewN (HB.out.trans (Hw.out.mono HB.out.size)) nq
              have Hbq := Lib.hid hbq
              clear hbq
              generalize wv.drewN nq = wq at *
              go_wp2_with fail
              go_ret
              exact ⟨rfl, Hbq.out⟩
      · have d3 : decide ((i : Int) < (ln : Int)) = decide (i < ln) := by rw [decide_eq_decide]; omega
        clear d3
        by_cases hil : i < ln
        · have d4 : decide ((i : Int) < 8) = false := decide_eq_false (by omega)
          have d5 : decide (i < 8) = false := decide_eq_false (by omega)
          clear hbe
          go_upto_region 19 with fail
          clear d4 d5
          obtain ⟨bk1, ok1, y2, hA5, hy, hcy⟩ := (HK.out.below Hw.out).rd.flat_ ckV_len (by omega) (show i < m by omega)
          obtain ⟨rfl, rfl⟩ : bk = bk1 ∧ ok = ok1 := by simp at hA5; exact hA5
          clear hA5
          have hqX : i < (X.length + 1023) / 1024 := by rw [← Hm.out]; omega
          obtain ⟨hyi, hyd, hdn, hyl, hylc, hln2⟩ := (HP.out.below Hw.out).at hy hqX HXl.out.2
          obtain ⟨yi, ⟨da, dn, dc⟩, ⟨la, lnn, lc⟩⟩ := y2
          simp only at hyi hyd hyl hylc hdn hln2
          subst hyi
          have k0 : wr.cell? ⟨bk, ok + i * 3, none⟩ = some (.int .i64 (i : Int)) := hcy 0 _ rfl
          have k1 : wr.cell? ⟨bk, ok + i * 3 + 1, none⟩ = some (.slice da dn dc) := by rw [Nat.add_assoc]; exact hcy 1 _ rfl
          have k2 : wr.cell? ⟨bk, ok + i * 3 + 2, none⟩ = some (.slice la lnn lc) := by rw [Nat.add_assoc]; exact hcy 2 _ rfl
          have k0r := cell_regrown k0
          have k1r := cell_regrown k1
          have k2r := cell_regrown k2
          have Hyd := Lib.hid hyd
          have Hyl := Lib.hid hyl
          have Htk0 := Lib.hid (take_right X Hgd.out hqX)
          have Htk0s := Lib.hid (take_step X Hgd.out hqX)
          rw [← Htr.out] at Htk0 Htk0s
          obtain ⟨hhn, hnn⟩ : ∃ v, v = takeH tr hh (i : Int) (cutAt X i) (proofL ((cutL X).map leafS) i) := ⟨_, rfl⟩
          rw [← hnn] at Htk0s
          have Hnn := Lib.hid hnn
          have hrs : ∀ w', Ext wr w' → w'.rangeAt tb 0 (fetchC tr A6 m c6) := fun w' hw' => fetch_range (HF.out.below (ext_below hw') HF.out.lt)
          have Hrs := Lib.hid hrs
          clear hrs hnn hy hcy k0 k1 k2 hyd hyl hqX
          go_cut [20, 21] from 138 to 156 (fun td te wx => ∃ (B : Nat) (A8 : Option Addr) (c8 : Nat), td = .pointer (some ⟨B, 0, none⟩) ∧ te = .int .i64 0 ∧ wr.heap.size ≤ B ∧ Blk wx B 35 (fetchC tr A8 m c8).toArray ∧ TLst wx A8 m hhn ∧ Below wr.heap.size wr wx)
          case first =>
            refine wp_region_reads_tail 22 [0, 1, 2, 3, 4, 5, 6, 7, 8, 9, 10, 11, 12, 13, 14, 15] 6 (by kernel_rfl) (List.take_append_drop _ _) rfl (by kernel_rfl) (by kernel_rfl) (by kernel_rfl) (by decide) (by kernel_rfl) (by kernel_rfl) (fun _ _ d _ _ h => by cases d <;> exact h) (by kernel_rfl) (by kernel_rfl) rfl ?_
            simp only [List.take_succ_cons, List.take_zero, List.drop_succ_cons, List.drop_zero, pickOps, List.getElem?_cons_zero, List.getElem?_cons_succ]
            refine wpQuiet_load_mid rfl 35 _ rfl tb 0 rfl (fetchC tr A6 m c6) _ Hrs.out hd35 hrow35 (by rw [fetchC_len]; kernel_rfl) ?_
            simp only [Act.put, List.setIfInBounds_toArray, List.set_cons_succ, List.set_cons_zero]
            repeat (go_big_quiet_step (fail))
            refine wpQuiet_nil ?_
            clear k0r k1r k2r
            refine chain_float (w0 := wr) (d := 20) (f := 20) (s := 21) (T := 35) (Z := (fetchC z32 none 0 0).toArray) (y := .tmp 155) (is1 := [17, 18, 19]) (by kernel_rfl) (fun _ _ d _ _ h => by cases d <;> exact h) (by kernel_rfl) rfl rfl rfl rfl (fun cells h => size35 _ (h.trans (by simp [fetchC_len]))) rfl rfl rfl rfl hi35 hz35 rfl [16] _ _ _ (by kernel_rfl) rfl (ext_drew (ext_refl _)) (by simp) ?_
            intro y1 W hW
            have hbW : Below wr.heap.size wr W := ((Below.refl _ wr).drew).trans hW
            simp only [Act.put, List.setIfInBounds_toArray, List.set_cons_succ, List.set_cons_zero, pickOps, List.getElem?_cons_zero, List.getElem?_cons_succ]
            have htk := Take_typed tr A6 m c6 hh (i : Int) da dn dc (cutAt X i) la lnn lc (proofL ((cutL X).map leafS) i) W ((Hg.out.below Hw.out).below hbW) (HT.out.lst.below hbW) (by omega) (Hyd.out.below hbW) (by omega) (Hyl.out.below hbW) hylc (by omega)
            rw [Htk0.out, ← Hnn.out] at htk
            have Htk2 := Lib.hid htk
            clear htk hW
            intro K hK
            go_simp
            refine Htk2.out.mono ?_
            rintro e W3 ⟨A8, c8, rfl, _, hT8, hb8⟩
            refine hK _ _ rfl (by simp) hb8 ?_
            have HT8 := Lib.hid (hT8 (HT.out.below hbW))
            have Hb8 := Lib.hid (hbW.trans (hb8.mono hbW.size))
            clear hK K Htk2 hT8 hb8 hbW
            intro y3 W4 hW4
            simp only [Act.put, List.setIfInBounds_toArray, List.set_cons_succ, List.set_cons_zero, chainP, finP, pickOps, List.getElem?_cons_zero, List.getElem?_cons_succ]
            repeat (go_big_quiet_step (fail))
            refine wpQuiet_nil ?_
            refine ⟨rfl, by simp, fun B W5 hB hb5 hblk => ⟨_, rfl, by simp [fetchC_len], fetch_one _ _ _ _, ?_⟩⟩
            have hbb := hW4.trans (hb5.mono hW4.size)
            have hb6 := Below.setRow (Hb8.out.trans (hbb.mono Hb8.out.size)) hB (fetchC tr A8 m c8).toArray
            have hT9 := ((HT8.out.below hbb).setRow hblk (cells := (fetchC tr A8 m c8).toArray))
            have hF9 : Blk (W5.setRow B (fetchC tr A8 m c8).toArray) B 35 (fetchC tr A8 m c8).toArray := setRow_heap _ _ _ _ _ _ hblk
            have Hb6 := Lib.hid hb6
            have HT9' := Lib.hid hT9
            have HF9 := Lib.hid hF9
            clear hb6 hW4 hb5 hblk Hb8 HT8 hbb hT9 hF9
            simp only [Exit.then, Act.put, List.setIfInBounds_toArray, List.set_cons_succ, List.set_cons_zero]
            go_wp2_with fail
            go_meet
            exact ⟨B, A8, c8, rfl, rfl, hB, HF9.out, HT9'.out, Hb6.out⟩
          case' rest => skip
          obtain ⟨nb, A7, c7, rfl, rfl, hlonb, hFn, hTn, hbn⟩ := hcut
          obtain ⟨wt, hwe⟩ : ∃ v, v = wc := ⟨_, rfl⟩
          subst hwe
          have HFnb := Lib.hid hFn
          have HTnb := Lib.hid hTn
          clear k0r k1r k2r Hrs hFn hTn Hyd Hyl Hnn hdn hln2 hylc
          have hwl0 := HFu.out.lt
          have hlo2 : tb < wr.heap.size := HF.out.lt
          replace HF := Lib.hid (HF.out.below hbn HF.out.lt)
          replace HT := Lib.hid (HT.out.below hbn)
          replace HFu := Lib.hid (HFu.out.below hbn HFu.out.lt)
          replace HTu := Lib.hid (HTu.out.below hbn)
          replace Hw := Lib.hid (Hw.out.trans (hbn.mono Hw.out.size))
          clear hbn
          obtain ⟨k, hk⟩ : ∃ k, k = m - 1 - i := ⟨_, rfl⟩
          have hkm : k < m := by omega
          have hki : (m : Int) - 1 - (i : Int) = (k : Int) := by omega
          have Hki := Lib.hid (And.intro hk hki)
          clear hk hki
          go_upto_region 21 with fail
          rw [Hki.out.2]
          obtain ⟨bk1, ok1, y2, hA5, hy, hcy⟩ := (HK.out.below Hw.out).rd.flat_ ckV_len (by omega) (show k < m by omega)
          obtain ⟨rfl, rfl⟩ : bk = bk1 ∧ ok = ok1 := by simp at hA5; exact hA5
          clear hA5
          have hqX : k < (X.length + 1023) / 1024 := by rw [← Hm.out]; omega
          obtain ⟨hyi, hyd, hdn, hyl, hylc, hln2⟩ := (HP.out.below Hw.out).at hy hqX HXl.out.2
          obtain ⟨yi, ⟨da, dn, dc⟩, ⟨la, lnn, lc⟩⟩ := y2
          simp only at hyi hyd hyl hylc hdn hln2
          subst hyi
          have k0 : wt.cell? ⟨bk, ok + k * 3, none⟩ = some (.int .i64 (k : Int)) := hcy 0 _ rfl
          have k1 : wt.cell? ⟨bk, ok + k * 3 + 1, none⟩ = some (.slice da dn dc) := by rw [Nat.add_assoc]; exact hcy 1 _ rfl
          have k2 : wt.cell? ⟨bk, ok + k * 3 + 2, none⟩ = some (.slice la lnn lc) := by rw [Nat.add_assoc]; exact hcy 2 _ rfl
          have k0r := cell_regrown k0
          have k1r := cell_regrown k1
          have k2r := cell_regrown k2
          have Hyd := Lib.hid hyd
          have Hyl := Lib.hid hyl
          have Htk1 := Lib.hid (take_right X Hgu.out hqX)
          have Htk1s := Lib.hid (take_step X Hgu.out hqX)
          rw [← Htr.out] at Htk1 Htk1s
          obtain ⟨uun, hnn⟩ : ∃ v, v = takeH tr uu (k : Int) (cutAt X k) (proofL ((cutL X).map leafS) k) := ⟨_, rfl⟩
          rw [← hnn] at Htk1s
          have Hnn := Lib.hid hnn
          have hrs : ∀ w', Ext wt w' → w'.rangeAt ub 0 (fetchC tr B6 m d6) := fun w' hw' => fetch_range (HFu.out.below (ext_below hw') HFu.out.lt)
          have Hrs := Lib.hid hrs
          clear hrs hnn hy hcy k0 k1 k2 hyd hyl hqX
          go_cut [23, 24] from 163 to 181 (fun td te wx => ∃ (B : Nat) (A8 : Option Addr) (c8 : Nat), td = .pointer (some ⟨B, 0, none⟩) ∧ te = .int .i64 0 ∧ wt.heap.size ≤ B ∧ Blk wx B 35 (fetchC tr A8 m c8).toArray ∧ TLst wx A8 m uun ∧ Below wt.heap.size wt wx)
          case first =>
            refine wp_region_reads_tail 22 [0, 1, 2, 3, 4, 5, 6, 7, 8, 9, 10, 11, 12, 13, 14, 15] 6 (by kernel_rfl) (List.take_append_drop _ _) rfl (by kernel_rfl) (by kernel_rfl) (by kernel_rfl) (by decide) (by kernel_rfl) (by kernel_rfl) (fun _ _ d _ _ h => by cases d <;> exact h) (by kernel_rfl) (by kernel_rfl) rfl ?_
            simp only [List.take_succ_cons, List.take_zero, List.drop_succ_cons, List.drop_zero, pickOps, List.getElem?_cons_zero, List.getElem?_cons_succ]
            refine wpQuiet_load_mid rfl 35 _ rfl ub 0 rfl (fetchC tr B6 m d6) _ Hrs.out hd35 hrow35 (by rw [fetchC_len]; kernel_rfl) ?_
            simp only [Act.put, List.setIfInBounds_toArray, List.set_cons_succ, List.set_cons_zero]
            repeat (go_big_quiet_step (fail))
            refine wpQuiet_nil ?_
            clear k0r k1r k2r
            refine chain_float (w0 := wt) (d := 23) (f := 20) (s := 21) (T := 35) (Z := (fetchC z32 none 0 0).toArray) (y := .tmp 180) (is1 := [17, 18, 19]) (by kernel_rfl) (fun _ _ d _ _ h => by cases d <;> exact h) (by kernel_rfl) rfl rfl rfl rfl (fun cells h => size35 _ (h.trans (by simp [fetchC_len]))) rfl rfl rfl rfl hi35 hz35 rfl [16] _ _ _ (by kernel_rfl) rfl (ext_drew (ext_refl _)) (by simp) ?_
            intro y1 W hW
            have hbW : Below wt.heap.size wt W := ((Below.refl _ wt).drew).trans hW
            simp only [Act.put, List.setIfInBounds_toArray, List.set_cons_succ, List.set_cons_zero, pickOps, List.getElem?_cons_zero, List.getElem?_cons_succ]
            have htk := Take_typed tr B6 m d6 uu (k : Int) da dn dc (cutAt X k) la lnn lc (proofL ((cutL X).map leafS) k) W ((Hg.out.below Hw.out).below hbW) (HTu.out.lst.below hbW) (by omega) (Hyd.out.below hbW) (by omega) (Hyl.out.below hbW) hylc (by omega)
            rw [Htk1.out, ← Hnn.out] at htk
            have Htk2 := Lib.hid htk
            clear htk hW
            intro K hK
            go_simp
            refine Htk2.out.mono ?_
            rintro e W3 ⟨A8, c8, rfl, _, hT8, hb8⟩
            refine hK _ _ rfl (by simp) hb8 ?_
            have HT8 := Lib.hid (hT8 (HTu.out.below hbW))
            have Hb8 := Lib.hid (hbW.trans (hb8.mono hbW.size))
            clear hK K Htk2 hT8 hb8 hbW
            intro y3 W4 hW4
            simp only [Act.put, List.setIfInBounds_toArray, List.set_cons_succ, List.set_cons_zero, chainP, finP, pickOps, List.getElem?_cons_zero, List.getElem?_cons_succ]
            repeat (go_big_quiet_step (fail))
            refine wpQuiet_nil ?_
            refine ⟨rfl, by simp, fun B W5 hB hb5 hblk => ⟨_, rfl, by simp [fetchC_len], fetch_one _ _ _ _, ?_⟩⟩
            have hbb := hW4.trans (hb5.mono hW4.size)
            have hb6 := Below.setRow (Hb8.out.trans (hbb.mono Hb8.out.size)) hB (fetchC tr A8 m c8).toArray
            have hT9 := ((HT8.out.below hbb).setRow hblk (cells := (fetchC tr A8 m c8).toArray))
            have hF9 : Blk (W5.setRow B (fetchC tr A8 m c8).toArray) B 35 (fetchC tr A8 m c8).toArray := setRow_heap _ _ _ _ _ _ hblk
            have Hb6 := Lib.hid hb6
            have HT9' := Lib.hid hT9
            have HF9 := Lib.hid hF9
            clear hb6 hW4 hb5 hblk Hb8 HT8 hbb hT9 hF9
            simp only [Exit.then, Act.put, List.setIfInBounds_toArray, List.set_cons_succ, List.set_cons_zero]
            go_wp2_with fail
            go_meet
            exact ⟨B, A8, c8, rfl, rfl, hB, HF9.out, HT9'.out, Hb6.out⟩
          case' rest => skip
          obtain ⟨nu, A8, c8, rfl, rfl, hlonu, hFn, hTn, hbn⟩ := hcut
          obtain ⟨wu, hwe⟩ : ∃ v, v = wc := ⟨_, rfl⟩
          subst hwe
          have HFnu := Lib.hid hFn
          have HTnu := Lib.hid hTn
          clear k0r k1r k2r Hrs hFn hTn Hyd Hyl Hnn hdn hln2 hylc
          have hlo3 := HFnb.out.lt
          replace HF := Lib.hid (HF.out.below hbn HF.out.lt)
          replace HT := Lib.hid (HT.out.below hbn)
          replace HFu := Lib.hid (HFu.out.below hbn HFu.out.lt)
          replace HTu := Lib.hid (HTu.out.below hbn)
          replace HFnb := Lib.hid (HFnb.out.below hbn HFnb.out.lt)
          replace HTnb := Lib.hid (HTnb.out.below hbn)
          replace Hw := Lib.hid (Hw.out.trans (hbn.mono Hw.out.size))
          clear hbn
          have hne1 : nb ≠ tb := by omega
          have hne2 : nu ≠ tb := by omega
          have hne3 : ub ≠ tb := by omega
          have hne4 : nu ≠ ub := by omega
          have htb := Htb.out
          have hKt := (KeptIn.refl (fun k => k ≠ tb) wu).setRow (g := tb) (fun h => h rfl) (fetchC tr A7 m c7).toArray
          obtain ⟨W1, hW1⟩ : ∃ v, v = wu.setRow tb (fetchC tr A7 m c7).toArray := ⟨_, rfl⟩
          rw [← hW1] at hKt
          have f1 : Blk W1 tb 35 (fetchC tr A7 m c7).toArray := by rw [hW1]; exact setRow_heap _ _ _ _ _ _ HF.out
          have f2 : TLst W1 A7 m hhn := by rw [hW1]; exact HTnb.out.setRow HF.out
          have f3 : Blk W1 nu 35 (fetchC tr A8 m c8).toArray := HFnu.out.keptIn hKt hne2
          have f4 : TLst W1 A8 m uun := by rw [hW1]; exact HTnu.out.setRow HF.out
          have f5 : Blk W1 ub 35 (fetchC tr B6 m d6).toArray := HFu.out.keptIn hKt hne3
          have f6 : Below wa.heap.size wa W1 := by rw [hW1]; exact Below.setRow Hw.out (show wa.heap.size ≤ tb by omega) _
          have hKu := (KeptIn.refl (fun k => k ≠ ub) W1).setRow (g := ub) (fun h => h rfl) (fetchC tr A8 m c8).toArray
          have F1 := Lib.hid (f1.keptIn hKu (fun e => hne3 e.symm))
          have F2 := Lib.hid (f2.setRow f5 (cells := (fetchC tr A8 m c8).toArray))
          have F3 := Lib.hid (show Blk (W1.setRow ub (fetchC tr A8 m c8).toArray) ub 35 (fetchC tr A8 m c8).toArray from setRow_heap _ _ _ _ _ _ f5)
          have F4 := Lib.hid (f4.setRow f5 (cells := (fetchC tr A8 m c8).toArray))
          have F6 := Lib.hid (Below.setRow f6 (show wa.heap.size ≤ ub by omega) (fetchC tr A8 m c8).toArray)
          have f3' := Lib.hid f3
          have f5' := Lib.hid f5
          clear f1 f2 f3 f4 f5 f6 hKt hKu htb
          go_upto_region 25 with (first | (refine wpList_load_mid rfl 35 (.tmp 20) rfl nb 0 rfl (fetchC tr A7 m c7) _ (fetch_range HFnb.out) hd35 hrow35 (by rw [fetchC_len]; kernel_rfl) ?_) | (refine wpList_store_row rfl 35 (.tmp 11) (.tmp 188) rfl tb (fetchC tr A7 m c7).toArray rfl rfl 35 (fetchC tr A6 m c6).toArray HF.out (size35 _ (by simp [fetchC_len])) (by simp [fetchC_len]) (fetch_one _ _ _ _) ?_))
          rw [← hW1]
          clear hW1
          go_wp2_with (first | (refine wpList_load_mid rfl 35 (.tmp 23) rfl nu 0 rfl (fetchC tr A8 m c8) _ (fetch_range f3'.out) hd35 hrow35 (by rw [fetchC_len]; kernel_rfl) ?_) | (refine wpList_store_row rfl 35 (.tmp 13) (.tmp 189) rfl ub (fetchC tr A8 m c8).toArray rfl rfl 35 (fetchC tr B6 m d6).toArray f5'.out (size35 _ (by simp [fetchC_len])) (by simp [fetchC_len]) (fetch_one _ _ _ _) ?_))
          exact ⟨⟨i + 1, A7, c7, hhn, A8, c8, uun, by go_num, by omega, F1.out, F2.out, Htk0s.out.1, fun j hj => (by
              by_cases hjk : j = i
              · subst hjk; exact Htk0s.out.2.1
              · exact Htk0s.out.2.2 j (Hfl.out j (by omega))), F3.out, F4.out, Htk1s.out.1, fun j hj hj2 => (by
              have hke := Hki.out.1
              by_cases hjk : j = k
              · subst hjk; exact Htk1s.out.2.1
              · exact Htk1s.out.2.2 j (Hfu.out j (by omega) hj2)), F6.out⟩, by simp [intOf]; omega⟩
        · have d4 : decide ((i : Int) < (ln : Int)) = false := decide_eq_false (by omega)
          have d5 : decide (i < ln) = false := decide_eq_false hil
          clear hbe
          go_upto_region 19 with fail
          clear d4 d5
          obtain ⟨bk1, ok1, y2, hA5, hy, hcy⟩ := (HK.out.below Hw.out).rd.flat_ ckV_len (by omega) (show i < m by omega)
          obtain ⟨rfl, rfl⟩ : bk = bk1 ∧ ok = ok1 := by simp at hA5; exact hA5
          clear hA5
          have hqX : i < (X.length + 1023) / 1024 := by rw [← Hm.out]; omega
          obtain ⟨hyi, hyd, hdn, hyl, hylc, hln2⟩ := (HP.out.below Hw.out).at hy hqX HXl.out.2
          obtain ⟨yi, ⟨da, dn, dc⟩, ⟨la, lnn, lc⟩⟩ := y2
          simp only at hyi hyd hyl hylc hdn hln2
          subst hyi
          have k0 : wr.cell? ⟨bk, ok + i * 3, none⟩ = some (.int .i64 (i : Int)) := hcy 0 _ rfl
          have k1 : wr.cell? ⟨bk, ok + i * 3 + 1, none⟩ = some (.slice da dn dc) := by rw [Nat.add_assoc]; exact hcy 1 _ rfl
          have k2 : wr.cell? ⟨bk, ok + i * 3 + 2, none⟩ = some (.slice la lnn lc) := by rw [Nat.add_assoc]; exact hcy 2 _ rfl
          have k0r := cell_regrown k0
          have k1r := cell_regrown k1
          have k2r := cell_regrown k2
          have Hyd := Lib.hid hyd
          have Hyl := Lib.hid hyl
          have Htk0 := Lib.hid (take_right X Hgd.out hqX)
          have Htk0s := Lib.hid (take_step X Hgd.out hqX)
          rw [← Htr.out] at Htk0 Htk0s
          obtain ⟨hhn, hnn⟩ : ∃ v, v = takeH tr hh (i : Int) (cutAt X i) (proofL ((cutL X).map leafS) i) := ⟨_, rfl⟩
          rw [← hnn] at Htk0s
          have Hnn := Lib.hid hnn
          have hrs : ∀ w', Ext wr w' → w'.rangeAt tb 0 (fetchC tr A6 m c6) := fun w' hw' => fetch_range (HF.out.below (ext_below hw') HF.out.lt)
          have Hrs := Lib.hid hrs
          clear hrs hnn hy hcy k0 k1 k2 hyd hyl hqX
          go_cut [20, 21] from 138 to 156 (fun td te wx => ∃ (B : Nat) (A8 : Option Addr) (c8 : Nat), td = .pointer (some ⟨B, 0, none⟩) ∧ te = .int .i64 0 ∧ wr.heap.size ≤ B ∧ Blk wx B 35 (fetchC tr A8 m c8).toArray ∧ TLst wx A8 m hhn ∧ Below wr.heap.size wr wx)
          case first =>
            refine wp_region_reads_tail 22 [0, 1, 2, 3, 4, 5, 6, 7, 8, 9, 10, 11, 12, 13, 14, 15] 6 (by kernel_rfl) (List.take_append_drop _ _) rfl (by kernel_rfl) (by kernel_rfl) (by kernel_rfl) (by decide) (by kernel_rfl) (by kernel_rfl) (fun _ _ d _ _ h => by cases d <;> exact h) (by kernel_rfl) (by kernel_rfl) rfl ?_
            simp only [List.take_succ_cons, List.take_zero, List.drop_succ_cons, List.drop_zero, pickOps, List.getElem?_cons_zero, List.getElem?_cons_succ]
            refine wpQuiet_load_mid rfl 35 _ rfl tb 0 rfl (fetchC tr A6 m c6) _ Hrs.out hd35 hrow35 (by rw [fetchC_len]; kernel_rfl) ?_
            simp only [Act.put, List.setIfInBounds_toArray, List.set_cons_succ, List.set_cons_zero]
            repeat (go_big_quiet_step (fail))
            refine wpQuiet_nil ?_
            clear k0r k1r k2r
            refine chain_float (w0 := wr) (d := 20) (f := 20) (s := 21) (T := 35) (Z := (fetchC z32 none 0 0).toArray) (y := .tmp 155) (is1 := [17, 18, 19]) (by kernel_rfl) (fun _ _ d _ _ h => by cases d <;> exact h) (by kernel_rfl) rfl rfl rfl rfl (fun cells h => size35 _ (h.trans (by simp [fetchC_len]))) rfl rfl rfl rfl hi35 hz35 rfl [16] _ _ _ (by kernel_rfl) rfl (ext_drew (ext_refl _)) (by simp) ?_
            intro y1 W hW
            have hbW : Below wr.heap.size wr W := ((Below.refl _ wr).drew).trans hW
            simp only [Act.put, List.setIfInBounds_toArray, List.set_cons_succ, List.set_cons_zero, pickOps, List.getElem?_cons_zero, List.getElem?_cons_succ]
            have htk := Take_typed tr A6 m c6 hh (i : Int) da dn dc (cutAt X i) la lnn lc (proofL ((cutL X).map leafS) i) W ((Hg.out.below Hw.out).below hbW) (HT.out.lst.below hbW) (by omega) (Hyd.out.below hbW) (by omega) (Hyl.out.below hbW) hylc (by omega)
            rw [Htk0.out, ← Hnn.out] at htk
            have Htk2 := Lib.hid htk
            clear htk hW
            intro K hK
            go_simp
            refine Htk2.out.mono ?_
            rintro e W3 ⟨A8, c8, rfl, _, hT8, hb8⟩
            refine hK _ _ rfl (by simp) hb8 ?_
            have HT8 := Lib.hid (hT8 (HT.out.below hbW))
            have Hb8 := Lib.hid (hbW.trans (hb8.mono hbW.size))
            clear hK K Htk2 hT8 hb8 hbW
            intro y3 W4 hW4
            simp only [Act.put, List.setIfInBounds_toArray, List.set_cons_succ, List.set_cons_zero, chainP, finP, pickOps, List.getElem?_cons_zero, List.getElem?_cons_succ]
            repeat (go_big_quiet_step (fail))
            refine wpQuiet_nil ?_
            refine ⟨rfl, by simp, fun B W5 hB hb5 hblk => ⟨_, rfl, by simp [fetchC_len], fetch_one _ _ _ _, ?_⟩⟩
            have hbb := hW4.trans (hb5.mono hW4.size)
            have hb6 := Below.setRow (Hb8.out.trans (hbb.mono Hb8.out.size)) hB (fetchC tr A8 m c8).toArray
            have hT9 := ((HT8.out.below hbb).setRow hblk (cells := (fetchC tr A8 m c8).toArray))
            have hF9 : Blk (W5.setRow B (fetchC tr A8 m c8).toArray) B 35 (fetchC tr A8 m c8).toArray := setRow_heap _ _ _ _ _ _ hblk
            have Hb6 := Lib.hid hb6
            have HT9' := Lib.hid hT9
            have HF9 := Lib.hid hF9
            clear hb6 hW4 hb5 hblk Hb8 HT8 hbb hT9 hF9
            simp only [Exit.then, Act.put, List.setIfInBounds_toArray, List.set_cons_succ, List.set_cons_zero]
            go_wp2_with fail
            go_meet
            exact ⟨B, A8, c8, rfl, rfl, hB, HF9.out, HT9'.out, Hb6.out⟩
          case' rest => skip
          obtain ⟨nb, A7, c7, rfl, rfl, hlonb, hFn, hTn, hbn⟩ := hcut
          obtain ⟨wt, hwe⟩ : ∃ v, v = wc := ⟨_, rfl⟩
          subst hwe
          have HFnb := Lib.hid hFn
          have HTnb := Lib.hid hTn
          clear k0r k1r k2r Hrs hFn hTn Hyd Hyl Hnn hdn hln2 hylc
          have hwl0 := HFu.out.lt
          have hlo2 : tb < wr.heap.size := HF.out.lt
          replace HF := Lib.hid (HF.out.below hbn HF.out.lt)
          replace HT := Lib.hid (HT.out.below hbn)
          replace HFu := Lib.hid (HFu.out.below hbn HFu.out.lt)
          replace HTu := Lib.hid (HTu.out.below hbn)
          replace Hw := Lib.hid (Hw.out.trans (hbn.mono Hw.out.size))
          clear hbn
          obtain ⟨k, hk⟩ : ∃ k, k = m - 1 - i := ⟨_, rfl⟩
          have hkm : k < m := by omega
          have hki : (m : Int) - 1 - (i : Int) = (k : Int) := by omega
          have Hki := Lib.hid (And.intro hk hki)
          clear hk hki
          go_upto_region 21 with fail
          rw [Hki.out.2]
          obtain ⟨bk1, ok1, y2, hA5, hy, hcy⟩ := (HK.out.below Hw.out).rd.flat_ ckV_len (by omega) (show k < m by omega)
          obtain ⟨rfl, rfl⟩ : bk = bk1 ∧ ok = ok1 := by simp at hA5; exact hA5
          clear hA5
          have hqX : k < (X.length + 1023) / 1024 := by rw [← Hm.out]; omega
          obtain ⟨hyi, hyd, hdn, hyl, hylc, hln2⟩ := (HP.out.below Hw.out).at hy hqX HXl.out.2
          obtain ⟨yi, ⟨da, dn, dc⟩, ⟨la, lnn, lc⟩⟩ := y2
          simp only at hyi hyd hyl hylc hdn hln2
          subst hyi
          have k0 : wt.cell? ⟨bk, ok + k * 3, none⟩ = some (.int .i64 (k : Int)) := hcy 0 _ rfl
          have k1 : wt.cell? ⟨bk, ok + k * 3 + 1, none⟩ = some (.slice da dn dc) := by rw [Nat.add_assoc]; exact hcy 1 _ rfl
          have k2 : wt.cell? ⟨bk, ok + k * 3 + 2, none⟩ = some (.slice la lnn lc) := by rw [Nat.add_assoc]; exact hcy 2 _ rfl
          have k0r := cell_regrown k0
          have k1r := cell_regrown k1
          have k2r := cell_regrown k2
          have Hyd := Lib.hid hyd
          have Hyl := Lib.hid hyl
          have Htk1 := Lib.hid (take_right X Hgu.out hqX)
          have Htk1s := Lib.hid (take_step X Hgu.out hqX)
          rw [← Htr.out] at Htk1 Htk1s
          obtain ⟨uun, hnn⟩ : ∃ v, v = takeH tr uu (k : Int) (cutAt X k) (proofL ((cutL X).map leafS) k) := ⟨_, rfl⟩
          rw [← hnn] at Htk1s
          have Hnn := Lib.hid hnn
          have hrs : ∀ w', Ext wt w' → w'.rangeAt ub 0 (fetchC tr B6 m d6) := fun w' hw' => fetch_range (HFu.out.below (ext_below hw') HFu.out.lt)
          have Hrs := Lib.hid hrs
          clear hrs hnn hy hcy k0 k1 k2 hyd hyl hqX
          go_cut [23, 24] from 163 to 181 (fun td te wx => ∃ (B : Nat) (A8 : Option Addr) (c8 : Nat), td = .pointer (some ⟨B, 0, none⟩) ∧ te = .int .i64 0 ∧ wt.heap.size ≤ B ∧ Blk wx B 35 (fetchC tr A8 m c8).toArray ∧ TLst wx A8 m uun ∧ Below wt.heap.size wt wx)
          case first =>
            refine wp_region_reads_tail 22 [0, 1, 2, 3, 4, 5, 6, 7, 8, 9, 10, 11, 12, 13, 14, 15] 6 (by kernel_rfl) (List.take_append_drop _ _) rfl (by kernel_rfl) (by kernel_rfl) (by kernel_rfl) (by decide) (by kernel_rfl) (by kernel_rfl) (fun _ _ d _ _ h => by cases d <;> exact h) (by kernel_rfl) (by kernel_rfl) rfl ?_
            simp only [List.take_succ_cons, List.take_zero, List.drop_succ_cons, List.drop_zero, pickOps, List.getElem?_cons_zero, List.getElem?_cons_succ]
            refine wpQuiet_load_mid rfl 35 _ rfl ub 0 rfl (fetchC tr B6 m d6) _ Hrs.out hd35 hrow35 (by rw [fetchC_len]; kernel_rfl) ?_
            simp only [Act.put, List.setIfInBounds_toArray, List.set_cons_succ, List.set_cons_zero]
            repeat (go_big_quiet_step (fail))
            refine wpQuiet_nil ?_
            clear k0r k1r k2r
            refine chain_float (w0 := wt) (d := 23) (f := 20) (s := 21) (T := 35) (Z := (fetchC z32 none 0 0).toArray) (y := .tmp 180) (is1 := [17, 18, 19]) (by kernel_rfl) (fun _ _ d _ _ h => by cases d <;> exact h) (by kernel_rfl) rfl rfl rfl rfl (fun cells h => size35 _ (h.trans (by simp [fetchC_len]))) rfl rfl rfl rfl hi35 hz35 rfl [16] _ _ _ (by kernel_rfl) rfl (ext_drew (ext_refl _)) (by simp) ?_
            intro y1 W hW
            have hbW : Below wt.heap.size wt W := ((Below.refl _ wt).drew).trans hW
            simp only [Act.put, List.setIfInBounds_toArray, List.set_cons_succ, List.set_cons_zero, pickOps, List.getElem?_cons_zero, List.getElem?_cons_succ]
            have htk := Take_typed tr B6 m d6 uu (k : Int) da dn dc (cutAt X k) la lnn lc (proofL ((cutL X).map leafS) k) W ((Hg.out.below Hw.out).below hbW) (HTu.out.lst.below hbW) (by omega) (Hyd.out.below hbW) (by omega) (Hyl.out.below hbW) hylc (by omega)
            rw [Htk1.out, ← Hnn.out] at htk
            have Htk2 := Lib.hid htk
            clear htk hW
            intro K hK
            go_simp
            refine Htk2.out.mono ?_
            rintro e W3 ⟨A8, c8, rfl, _, hT8, hb8⟩
            refine hK _ _ rfl (by simp) hb8 ?_
            have HT8 := Lib.hid (hT8 (HTu.out.below hbW))
            have Hb8 := Lib.hid (hbW.trans (hb8.mono hbW.size))
            clear hK K Htk2 hT8 hb8 hbW
            intro y3 W4 hW4
            simp only [Act.put, List.setIfInBounds_toArray, List.set_cons_succ, List.set_cons_zero, chainP, finP, pickOps, List.getElem?_cons_zero, List.getElem?_cons_succ]
            repeat (go_big_quiet_step (fail))
            refine wpQuiet_nil ?_
            refine ⟨rfl, by simp, fun B W5 hB hb5 hblk => ⟨_, rfl, by simp [fetchC_len], fetch_one _ _ _ _, ?_⟩⟩
            have hbb := hW4.trans (hb5.mono hW4.size)
            have hb6 := Below.setRow (Hb8.out.trans (hbb.mono Hb8.out.size)) hB (fetchC tr A8 m c8).toArray
            have hT9 := ((HT8.out.below hbb).setRow hblk (cells := (fetchC tr A8 m c8).toArray))
            have hF9 : Blk (W5.setRow B (fetchC tr A8 m c8).toArray) B 35 (fetchC tr A8 m c8).toArray := setRow_heap _ _ _ _ _ _ hblk
            have Hb6 := Lib.hid hb6
            have HT9' := Lib.hid hT9
            have HF9 := Lib.hid hF9
            clear hb6 hW4 hb5 hblk Hb8 HT8 hbb hT9 hF9
            simp only [Exit.then, Act.put, List.setIfInBounds_toArray, List.set_cons_succ, List.set_cons_zero]
            go_wp2_with fail
            go_meet
            exact ⟨B, A8, c8, rfl, rfl, hB, HF9.out, HT9'.out, Hb6.out⟩
          case' rest => skip
          obtain ⟨nu, A8, c8, rfl, rfl, hlonu, hFn, hTn, hbn⟩ := hcut
          obtain ⟨wu, hwe⟩ : ∃ v, v = wc := ⟨_, rfl⟩
          subst hwe
          have HFnu := Lib.hid hFn
          have HTnu := Lib.hid hTn
          clear k0r k1r k2r Hrs hFn hTn Hyd Hyl Hnn hdn hln2 hylc
          have hlo3 := HFnb.out.lt
          replace HF := Lib.hid (HF.out.below hbn HF.out.lt)
          replace HT := Lib.hid (HT.out.below hbn)
          replace HFu := Lib.hid (HFu.out.below hbn HFu.out.lt)
          replace HTu := Lib.hid (HTu.out.below hbn)
          replace HFnb := Lib.hid (HFnb.out.below hbn HFnb.out.lt)
          replace HTnb := Lib.hid (HTnb.out.below hbn)
          replace Hw := Lib.hid (Hw.out.trans (hbn.mono Hw.out.size))
          clear hbn
          have hne1 : nb ≠ tb := by omega
          have hne2 : nu ≠ tb := by omega
          have hne3 : ub ≠ tb := by omega
          have hne4 : nu ≠ ub := by omega
          have htb := Htb.out
          have hKt := (KeptIn.refl (fun k => k ≠ tb) wu).setRow (g := tb) (fun h => h rfl) (fetchC tr A7 m c7).toArray
          obtain ⟨W1, hW1⟩ : ∃ v, v = wu.setRow tb (fetchC tr A7 m c7).toArray := ⟨_, rfl⟩
          rw [← hW1] at hKt
          have f1 : Blk W1 tb 35 (fetchC tr A7 m c7).toArray := by rw [hW1]; exact setRow_heap _ _ _ _ _ _ HF.out
          have f2 : TLst W1 A7 m hhn := by rw [hW1]; exact HTnb.out.setRow HF.out
          have f3 : Blk W1 nu 35 (fetchC tr A8 m c8).toArray := HFnu.out.keptIn hKt hne2
          have f4 : TLst W1 A8 m uun := by rw [hW1]; exact HTnu.out.setRow HF.out
          have f5 : Blk W1 ub 35 (fetchC tr B6 m d6).toArray := HFu.out.keptIn hKt hne3
          have f6 : Below wa.heap.size wa W1 := by rw [hW1]; exact Below.setRow Hw.out (show wa.heap.size ≤ tb by omega) _
          have hKu := (KeptIn.refl (fun k => k ≠ ub) W1).setRow (g := ub) (fun h => h rfl) (fetchC tr A8 m c8).toArray
          have F1 := Lib.hid (f1.keptIn hKu (fun e => hne3 e.symm))
          have F2 := Lib.hid (f2.setRow f5 (cells := (fetchC tr A8 m c8).toArray))
          have F3 := Lib.hid (show Blk (W1.setRow ub (fetchC tr A8 m c8).toArray) ub 35 (fetchC tr A8 m c8).toArray from setRow_heap _ _ _ _ _ _ f5)
          have F4 := Lib.hid (f4.setRow f5 (cells := (fetchC tr A8 m c8).toArray))
          have F6 := Lib.hid (Below.setRow f6 (show wa.heap.size ≤ ub by omega) (fetchC tr A8 m c8).toArray)
          have f3' := Lib.hid f3
          have f5' := Lib.hid f5
          clear f1 f2 f3 f4 f5 f6 hKt hKu htb
          go_upto_region 25 with (first | (refine wpList_load_mid rfl 35 (.tmp 20) rfl nb 0 rfl (fetchC tr A7 m c7) _ (fetch_range HFnb.out) hd35 hrow35 (by rw [fetchC_len]; kernel_rfl) ?_) | (refine wpList_store_row rfl 35 (.tmp 11) (.tmp 188) rfl tb (fetchC tr A7 m c7).toArray rfl rfl 35 (fetchC tr A6 m c6).toArray HF.out (size35 _ (by simp [fetchC_len])) (by simp [fetchC_len]) (fetch_one _ _ _ _) ?_))
          rw [← hW1]
          clear hW1
          go_wp2_with (first | (refine wpList_load_mid rfl 35 (.tmp 23) rfl nu 0 rfl (fetchC tr A8 m c8) _ (fetch_range f3'.out) hd35 hrow35 (by rw [fetchC_len]; kernel_rfl) ?_) | (refine wpList_store_row rfl 35 (.tmp 13) (.tmp 189) rfl ub (fetchC tr A8 m c8).toArray rfl rfl 35 (fetchC tr B6 m d6).toArray f5'.out (size35 _ (by simp [fetchC_len])) (by simp [fetchC_len]) (fetch_one _ _ _ _) ?_))
          exact ⟨⟨i + 1, A7, c7, hhn, A8, c8, uun, by go_num, by omega, F1.out, F2.out, Htk0s.out.1, fun j hj => (by
              by_cases hjk : j = i
              · subst hjk; exact Htk0s.out.2.1
              · exact Htk0s.out.2.2 j (Hfl.out j (by omega))), F3.out, F4.out, Htk1s.out.1, fun j hj hj2 => (by
              have hke := Hki.out.1
              by_cases hjk : j = k
              · subst hjk; exact Htk1s.out.2.1
              · exact Htk1s.out.2.2 j (Hfu.out j (by omega) hj2)), F6.out⟩, by simp [intOf]; omega⟩
    · obtain rfl : i = m := by omega
      have e1 := all_there X Hgd.out (fun j hj => Hfl.out j (by rw [Hm.out]; exact hj))
      have e2 := all_there X Hgu.out (fun j hj => Hfu.out j (by omega) (by rw [Hm.out]; exact hj))
      have hsm := RSame_any tr tr A6 B6 i i c6 d6 hh uu wr HT.out.lst HTu.out.lst
      rw [decide_eq_true (show tr = tr ∧ hh = uu from ⟨rfl, e1.trans e2.symm⟩)] at hsm
      have Hsm := Lib.hid hsm
      have HBe := Lib.hid (HB.out.trans (Hw.out.mono HB.out.size))
      clear hsm e1 e2 hlt
      go_wp2_with (first | (refine wpList_load_mid_g (by first | rfl | simp [Region.wanted, yielded]) 35 (.tmp 11) rfl tb 0 rfl (fetchC tr A6 i c6) _ (fetch_range HF.out) hd35 hrow35 (by rw [fetchC_len]; kernel_rfl) ?_) | (refine wpList_load_mid_g (by first | rfl | simp [Region.wanted, yielded]) 35 (.tmp 13) rfl ub 0 rfl (fetchC tr B6 i d6) _ (fetch_range HFu.out) hd35 hrow35 (by rw [fetchC_len]; kernel_rfl) ?_))
      refine Hsm.out.mono ?_
      rintro e w' ⟨rfl, hb'⟩
      have HBf := Lib.hid (HBe.out.trans (hb'.mono HBe.out.size))
      clear hb' Hsm HBe
      go_wp2_with fail
      go_ret
      exact ⟨rfl, HBf.out⟩
end Go.Proofs.YthlecmmngldodaaDoor
