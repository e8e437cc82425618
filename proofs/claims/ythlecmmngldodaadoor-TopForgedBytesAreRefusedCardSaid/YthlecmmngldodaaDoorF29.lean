/- The reference's Clash, for chunks as great as a transfer's. -/
import Derived.Test.YthlecmmngldodaaDoorF28
namespace Go.Proofs.YthlecmmngldodaaDoor
open Go.RowKit Go.Sort

theorem inputsL_bound3 (n i : Nat) (bs : List UInt8) (p : List Sum32) (h : bs.length ≤ 3000) : ∀ l ∈ inputsL n i bs p, l.length ≤ 3001 := fun l hl => by
  rcases List.mem_cons.1 hl with h1 | h1
  · subst h1; simp; omega
  · rw [inpF_bound _ _ _ l h1]; omega
set_option maxRecDepth 100000 in
set_option maxHeartbeats 2000000 in
theorem RClash_yes3 (n i n' i' : Nat) (A B A' B' : Option Addr) (len cap m c len' cap' m' c' : Nat) (bs bs' : List UInt8) (p p' : List Sum32) (hi : i < n) (hn : n ≤ 1000) (hi' : i' < n') (hn' : n' ≤ 1000) (w : World)
    (hr : Rd w 1 A len (bs.map byteV)) (hlen : len ≤ 3000) (hp : Rd w 32 B m (p.flatMap sumC)) (hr' : Rd w 1 A' len' (bs'.map byteV)) (hlen' : len' ≤ 3000) (hp' : Rd w 32 B' m' (p'.flatMap sumC))
    (a b : Nat) (x y : List UInt8) (hba : b < a) (hx : (inputsL n i bs p ++ inputsL n' i' bs' p')[a]? = some x) (hy : (inputsL n i bs p ++ inputsL n' i' bs' p')[b]? = some y) (hne : x ≠ y) (hsh : sha x = sha y) :
    Calls Tryd.prog 37 #[.agg (claimV n i A len cap B m c), .agg (claimV n' i' A' len' cap' B' m' c')] w fun e w' => e = .returned (.bool true) ∧ Below w.heap.size w w' := by
  obtain ⟨i32, hi32, hz32, hs32, hy32⟩ := info_parts info32
  obtain ⟨i22, hi22, hz22, hs22, hy22⟩ := info_parts info22
  obtain ⟨d41, hd41, hrow41⟩ := und41
  have hbl := hr.len1
  have hbl' := hr'.len1
  have hbd : ∀ l ∈ inputsL n i bs p ++ inputsL n' i' bs' p', l.length ≤ 3001 := fun l hl => by
    rcases List.mem_append.1 hl with h | h
    · exact inputsL_bound3 _ _ _ _ (by omega) l h
    · exact inputsL_bound3 _ _ _ _ (by omega) l h
  have hl1 := inputsL_len n i bs p
  have hl2 := inputsL_len n' i' bs' p'
  have Hbl := Lib.hid hbl
  have Hbl' := Lib.hid hbl'
  clear hbl hbl'
  go_enter Tryd.func37, Tryd.ntmps37
  go_upto_region 1 with fail
  obtain ⟨w1, hw1⟩ : ∃ w1, w1 = (w.alloc (.cells (claimV n i A len cap B m c) 66)).alloc (.cells (claimV n' i' A' len' cap' B' m' c') 66) := ⟨_, rfl⟩
  have hB1 : Below w.heap.size w w1 := by rw [hw1]; exact ((Below.refl _ _).alloc (Nat.le_refl _) _).alloc (by simp) _
  have hC1 : Blk w1 w.heap.size 66 (claimV n i A len cap B m c) := by rw [hw1]; exact (Blk.new _ _ _).alloc _
  have hC2 : Blk w1 (w.heap.size + 1) 66 (claimV n' i' A' len' cap' B' m' c') := by
    rw [hw1]
    have := Blk.new (w.alloc (.cells (claimV n i A len cap B m c) 66)) 66 (claimV n' i' A' len' cap' B' m' c')
    rwa [World.size_alloc] at this
  rw [← hw1]
  clear hw1
  have H1 := Lib.hid (RInputs_any n i A B len cap m c bs p hi hn w1 (hr.below hB1) (by omega) (hp.below hB1))
  have hr1' := hr'.below hB1
  have hp1' := hp'.below hB1
  have g1 : w1.rangeAt w.heap.size 0 [.int .i64 (n : Int), .int .i64 (i : Int), .slice A len cap, .slice B m c] := Blk.range (cs := [.int .i64 (n : Int), .int .i64 (i : Int), .slice A len cap, .slice B m c]) hC1
  have HB1 := Lib.hid hB1
  have HC2 := Lib.hid hC2
  have Hr1' := Lib.hid hr1'
  have Hp1' := Lib.hid hp1'
  have G1 := Lib.hid g1
  have hs2 := hC2.lt
  clear hr hp hr' hp' hB1 hC1 hC2 hr1' hp1' g1
  go_wp2_with (refine wpList_load_mid rfl 66 (.tmp 2) rfl w.heap.size 0 rfl [.int .i64 (n : Int), .int .i64 (i : Int), .slice A len cap, .slice B m c] _ G1.out hd41 hrow41 (by kernel_rfl) ?_)
  refine H1.out.mono ?_
  rintro e w2 ⟨v1, vs1, rfl, hA1, hI1, hb1⟩
  have hs3 := hb1.size
  have H2 := Lib.hid (RInputs_any n' i' A' B' len' cap' m' c' bs' p' hi' hn' w2 (Hr1'.out.below hb1) (by omega) (Hp1'.out.below hb1))
  have g2 : w2.rangeAt (w.heap.size + 1) 0 [.int .i64 (n' : Int), .int .i64 (i' : Int), .slice A' len' cap', .slice B' m' c'] := Blk.range (cs := [.int .i64 (n' : Int), .int .i64 (i' : Int), .slice A' len' cap', .slice B' m' c']) (HC2.out.below hb1 hs2)
  have HA1 := Lib.hid hA1
  have HI1 := Lib.hid hI1
  have Hb1 := Lib.hid hb1
  have G2 := Lib.hid g2
  clear hA1 hI1 hb1 g2 H1 G1
  go_wp2_with (refine wpList_load_mid rfl 66 (.tmp 3) rfl (w.heap.size + 1) 0 rfl [.int .i64 (n' : Int), .int .i64 (i' : Int), .slice A' len' cap', .slice B' m' c'] _ G2.out hd41 hrow41 (by kernel_rfl) ?_)
  refine H2.out.mono ?_
  rintro e w3 ⟨v2, vs2, rfl, hA2, hI2, hb2⟩
  obtain ⟨Av2, cv2, rfl, hcv2, hrv2⟩ := hA2.rd
  have hA1' := HA1.out.below hb2 (Nat.le_refl _)
  have hI1' := HI1.out.below hb2
  have hone : ∀ u ∈ vs2.map slV, u.oneCell' = true := fun u hu => by obtain ⟨s, _, rfl⟩ := List.mem_map.1 hu; rfl
  have hs4 := hb2.size
  have happ : ∀ (v9 : Value) (w9 : World), AppZ w9 w1.heap.size 22 1 v9 ((inputsL n i bs p).length + (inputsL n' i' bs' p').length) (vs1.map slV ++ vs2.map slV) → w3.grownBy w9 v1.ownBlock →
      ∃ A9 c9, v9 = .slice A9 ((inputsL n i bs p).length + (inputsL n' i' bs' p').length) c9 ∧ Lst w9 A9 ((inputsL n i bs p).length + (inputsL n' i' bs' p').length) (inputsL n i bs p ++ inputsL n' i' bs' p') ∧ Below w.heap.size w w9 := by
    intro v9 w9 ha hg
    obtain ⟨A9, c9, rfl, _, hr9⟩ := ha.rd
    have hrow := hA1'.row (by unfold inputsL; simp)
    have hI := (hI1'.grown hg hrow (by decide)).append (hI2.grown hg hrow (by decide))
    rw [← List.map_append] at hr9
    have h13 : Below w.heap.size w w3 := HB1.out.trans ((Hb1.out.trans (hb2.mono hs3)).mono HB1.out.size)
    exact ⟨A9, c9, rfl, hI.lst hr9, h13.grown hg h13.size (fun k e => by have := (HA1.out.lt k e).1; have := HB1.out.size; omega)⟩
  have Happ := Lib.hid happ
  have HA1' := Lib.hid hA1'
  have Hrv2 := Lib.hid hrv2
  clear happ hA1' hI1' hrv2 hA2 hI2 hb2 H2 G2 HI1 HA1
  go_wp2_with (at_builtin; go_loud (refine wpList_appz rfl (.tmp 10) (.tmp 12) 27 rfl 22 i22 (.slice none 0 0) 1 24 Tryd.underlying27 hi22 hz22 hs22 hy22 rfl (by omega) w1.heap.size (by omega) _ _ _ rfl HA1'.out Av2 _ cv2 (vs2.map slV) rfl Hrv2.out hone (by unfold maxLen; omega) (by omega) ?_; intro v9 w4 ha9 hg9; obtain ⟨A9, c9, rfl, hL9, hB9⟩ := Happ.out v9 w4 ha9 hg9; have HL := Lib.hid hL9; have HB4 := Lib.hid hB9; clear ha9 hg9 hL9 hB9))
  obtain ⟨N, hN⟩ : ∃ N, N = (inputsL n i bs p).length + (inputsL n' i' bs' p').length := ⟨_, rfl⟩
  obtain ⟨L, hL⟩ : ∃ L, L = inputsL n i bs p ++ inputsL n' i' bs' p' := ⟨_, rfl⟩
  rw [← hN] at HL ⊢
  rw [← hL] at HL hx hy hbd
  have hN2 : N ≤ 2002 := by omega
  have hLl := HL.out.len
  have haN : a < N := by rw [← hLl]; exact (List.getElem?_eq_some_iff.1 hx).1
  clear hN hL hl1 hl2 Happ HA1' Hrv2 hone hcv2 HC2 Hr1' Hp1' Hb1 Hbl Hbl' hd41 hrow41
  have Hx := Lib.hid hx
  have Hy := Lib.hid hy
  have Hne := Lib.hid hne
  have Hsh := Lib.hid hsh
  have Hbd := Lib.hid hbd
  clear hx hy hne hsh hbd
  go_loopw [6, 7] (fun v6 _ wr => ∃ i : Nat, i ≤ a ∧ v6 = .int .i64 (i : Int) ∧ Below w4.heap.size w4 wr) (fun v6 _ _ => N - (intOf v6).toNat)
  case atStart => exact ⟨0, by omega, rfl, Below.refl _ _⟩
  case round =>
    obtain ⟨i, hia, rfl, hB⟩ := hrel
    have hiN : i < N := by omega
    have HBo := Lib.hid hB
    clear hB
    obtain ⟨wo, hwo⟩ : ∃ wo, wo = wr := ⟨_, rfl⟩
    subst hwo
    go_wp2_with fail
    go_loopw [7] (fun v7 wr => ∃ k : Nat, k ≤ i ∧ (i = a → k ≤ b) ∧ v7 = .int .i64 (k : Int) ∧ Below wo.heap.size wo wr) (fun v7 _ => i - (intOf v7).toNat)
    case atStart => exact ⟨0, by omega, by omega, rfl, Below.refl _ _⟩
    case round =>
      obtain ⟨k, hki, hkb, rfl, hB⟩ := hrel
      by_cases hlt : k < i
      · have hB4r := HBo.out.trans (hB.mono HBo.out.size)
        have hLr := (HL.out).below hB4r
        obtain ⟨bI, oI, vi, ci, rfl, hci, ei, hri, hvi⟩ := hLr.at_ hiN
        obtain ⟨bK, oK, vk, ck, eK, hck, ek, hrk, hvk⟩ := hLr.at_ (show k < N by omega)
        cases eK
        have hnot : ci = ck ∨ sha ci ≠ sha ck → (i = a → k ≠ b) := fun h e1 e2 => by
          subst e1 e2
          have h1 := Hx.out
          rw [hci] at h1
          have h2 := Hy.out
          rw [hck] at h2
          cases h1; cases h2
          rcases h with h | h
          · exact Hne.out h
          · exact h Hsh.out
        have hli : vi.n ≤ 3001 := by have := Hbd.out ci (List.mem_of_getElem? hci); have := hri.len1; omega
        have hlk : vk.n ≤ 3001 := by have := Hbd.out ck (List.mem_of_getElem? hck); have := hrk.len1; omega
        have er := cell_regrown ei
        have ekr := cell_regrown ek
        have k25 : ∀ d os, Calls Tryd.prog 54 #[.slice vi.a vi.n vi.c, .slice vk.a vk.n vk.c] (grow (redrawn wr d) os) fun e w'' => e = .returned (.bool (decide (ci = ck))) ∧ ∃ p : Regrown, w'' = grow (redrawn wr p.d) p.os := fun d os =>
          Calls.regrown_of ((SameBytes_any vi.a vk.a vi.n vk.n vi.c vk.c ci ck _ (hri.below (below_regrown wr d os)) (hrk.below (below_regrown wr d os))).mono fun e w'' ⟨h1, m, h2⟩ => ⟨h1, by rw [h2]; exact below_drewN (Below.refl _ _) m⟩)
        have k15 : ∀ d os, Calls Tryd.prog 55 #[.slice vi.a vi.n vi.c] (grow (redrawn wr d) os) fun e w'' => e = .returned (.agg (sumC (shaS ci)).toArray) ∧ ∃ p : Regrown, w'' = grow (redrawn wr p.d) p.os := fun d os =>
          Calls.regrown_of (RSum_any vi.a vi.n vi.c ci _ (hri.below (below_regrown wr d os)) (by omega))
        have k16 : ∀ d os, Calls Tryd.prog 55 #[.slice vk.a vk.n vk.c] (grow (redrawn wr d) os) fun e w'' => e = .returned (.agg (sumC (shaS ck)).toArray) ∧ ∃ p : Regrown, w'' = grow (redrawn wr p.d) p.os := fun d os =>
          Calls.regrown_of (RSum_any vk.a vk.n vk.c ck _ (hrk.below (below_regrown wr d os)) (by omega))
        have hE := run_eql_sum (shaS ci) (shaS ck)
        have Hnot := Lib.hid hnot
        have HB := Lib.hid hB
        clear hci hck hri hrk hnot hB hB4r hLr ei ek
        by_cases hsame : ci = ck
        · rw [decide_eq_true hsame] at k25
          have hk2 := Hnot.out (.inl hsame)
          clear hsame
          go_upto_region 9 with fail
          refine wp_region_quiet_below (by kernel_rfl) (by kernel_rfl) ?_
          repeat (go_big_quiet_step (with_reducible exact k25 _ _))
          refine wpQuiet_nil ?_
          intro wz hwz
          have Hbz := Lib.hid (HB.out.trans ((ext_below hwz).mono HB.out.size))
          clear hwz k25 k15 k16 er ekr hE
          go_wp2
          exact ⟨⟨k + 1, by omega, by omega, by go_num, Hbz.out⟩, by simp [intOf]; omega⟩
        · rw [decide_eq_false hsame] at k25
          by_cases hsh : sha ci = sha ck
          · rw [shaS_eq hsh] at hE
            clear hsame hsh
            go_upto_region 9 with fail
            refine wp_region_quiet_below (by kernel_rfl) (by kernel_rfl) ?_
            repeat (go_big_quiet_step (first | with_reducible exact k25 _ _ | with_reducible exact k15 _ _ | with_reducible exact k16 _ _))
            refine wpQuiet_nil ?_
            intro wz hwz
            have Hbz := Lib.hid (HB4.out.trans ((HBo.out.trans ((HB.out.trans ((ext_below hwz).mono HB.out.size)).mono HBo.out.size)).mono HB4.out.size))
            clear hwz k25 k15 k16 er ekr hE
            go_wp2
            go_ret
            exact ⟨rfl, Hbz.out⟩
          · rw [shaS_ne hsh] at hE
            have hk2 := Hnot.out (.inr hsh)
            clear hsame hsh
            go_upto_region 9 with fail
            refine wp_region_quiet_below (by kernel_rfl) (by kernel_rfl) ?_
            repeat (go_big_quiet_step (first | with_reducible exact k25 _ _ | with_reducible exact k15 _ _ | with_reducible exact k16 _ _))
            refine wpQuiet_nil ?_
            intro wz hwz
            have Hbz := Lib.hid (HB.out.trans ((ext_below hwz).mono HB.out.size))
            clear hwz k25 k15 k16 er ekr hE
            go_wp2
            exact ⟨⟨k + 1, by omega, by omega, by go_num, Hbz.out⟩, by simp [intOf]; omega⟩
      · have hki' : k = i := by omega
        have hia' : i ≠ a := by omega
        have Hbz := Lib.hid (HBo.out.trans (hB.mono HBo.out.size))
        clear hB
        go_wp2_with fail
        exact ⟨⟨i + 1, by omega, by go_num, Hbz.out⟩, by simp [intOf]; omega⟩

theorem RClash_forge (n i : Nat) (A B A' B' : Option Addr) (len cap m c len' cap' m' c' : Nat) (bs bs' : List UInt8) (p p' : List Sum32) (rt : Sum32) (hi : i < n) (hn : n ≤ 1000) (w : World)
    (hr : Rd w 1 A len (bs.map byteV)) (hlen : len ≤ 3000) (hp : Rd w 32 B m (p.flatMap sumC)) (hr' : Rd w 1 A' len' (bs'.map byteV)) (hlen' : len' ≤ 3000) (hp' : Rd w 32 B' m' (p'.flatMap sumC))
    (h : chkL n i (leafS bs) p = some rt) (h' : chkL n i (leafS bs') p' = some rt) (hne : bs ≠ bs') :
    Calls Tryd.prog 37 #[.agg (claimV n i A len cap B m c), .agg (claimV n i A' len' cap' B' m' c')] w fun e w' => e = .returned (.bool true) ∧ Below w.heap.size w w' := by
  obtain ⟨a, b, x, y, h1, h2, h3, h4, h5⟩ := forge n i hi bs bs' p p' rt h h' (fun e => hne e.1)
  exact RClash_yes3 n i n i A B A' B' len cap m c len' cap' m' c' bs bs' p p' hi hn hi hn w hr hlen hp hr' hlen' hp' a b x y h1 h2 h3 h4 h5
end Go.Proofs.YthlecmmngldodaaDoor
