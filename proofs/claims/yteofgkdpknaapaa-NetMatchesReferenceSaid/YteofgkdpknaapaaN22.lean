/- Package net: Double; the reference's Double. -/
import Derived.Test.YteofgkdpknaapaaN21
namespace Go.Proofs.Yteofgkdpknaapaa
open Go.RowKit Go.Sort

/-- What a function answers that hands back a net and a number. -/
def NetQ (r : List Pk × Int) (w : World) (e : Ending) (w' : World) : Prop :=
  (∃ (A : Option Addr) (N c : Nat), e = .returned (.tuple #[netV A N c, .int .i64 r.2]) ∧ N ≤ c ∧ PksAt w' A N r.1) ∧ Below w.heap.size w w'
/-- What Double answers. -/
def doubleP (ps : List Pk) (i : Int) : List Pk × Int := if 0 ≤ i ∧ i < (ps.length : Int) then (if 64 ≤ ps.length then (ps, 2) else (ps ++ [ps.getD i.toNat pk0], 0)) else (ps, 310)
/-- The net is laid into the result's variable. -/
theorem net_store {w W : World} {g : Nat} {A : Option Addr} {n c : Nat} {v0 : Value} {ps : List Pk} {e : Int} (hb : Below w.heap.size w W) (hg : w.heap.size ≤ g) (hB : Blk W g 30 #[v0]) (h : PksAt W A n ps) (hc : n ≤ c) :
    Blk (W.setRow g #[.slice A n c]) g 30 #[.slice A n c] ∧ NetQ (ps, e) w (.returned (.tuple #[.agg #[.slice A n c], .int .i64 e])) (W.setRow g #[.slice A n c]) := by
  have k1 : KeptIn (fun q => q ≠ g) W (W.setRow g #[.slice A n c]) := (KeptIn.refl (fun q => q ≠ g) W).setRow (g := g) (fun h => h rfl) _
  have hs : ∀ t, t ≠ 30 → ∀ b cur, Blk W b t cur → b ≠ g := fun t h b cur hb => hb.ne hB h
  obtain ⟨vs, ht, hp⟩ := h
  exact ⟨setRow_heap _ _ _ _ _ _ hB, ⟨A, n, c, rfl, hc, vs, ht.keptIn k1 (hs _ (by decide)), hp.keptIn k1 (hs _ (by decide)) (hs _ (by decide)) (hs _ (by decide))⟩, hb.trans (KeptIn.below k1 fun q hq => by omega)⟩
set_option maxRecDepth 100000 in
set_option maxHeartbeats 1000000 in
theorem Double_any (A : Option Addr) (n c : Nat) (ps : List Pk) (i : Int) (w : World) (h : PksAt w A n ps) (hnc : n ≤ c) (hn : n ≤ 10000) :
    Calls Try.prog 14 #[netV A n c, .int .i64 i] w (NetQ (doubleP ps i) w) := by
  have hpl := h.len
  obtain ⟨w1, hw1⟩ : ∃ q, q = (w.alloc (.cells #[.slice A n c] 30)).alloc (.cells #[.slice none 0 0] 30) := ⟨_, rfl⟩
  have hb1 : Below w.heap.size w w1 := by rw [hw1]; exact ((Below.refl _ _).alloc (Nat.le_refl _) _).alloc (by rw [World.size_alloc]; omega) _
  have hX1 : Blk w1 w.heap.size 30 #[.slice A n c] := by rw [hw1]; exact (Blk.new w _ _).alloc _
  have hN1 : Blk w1 (w.heap.size + 1) 30 #[.slice none 0 0] := by
    rw [hw1]
    have h := Blk.new (w.alloc (.cells #[.slice A n c] 30)) 30 #[.slice none 0 0]
    rwa [World.size_alloc] at h
  have hh := has_any A n c i w1
  unfold netV at hh
  obtain ⟨d30, hd30, hrow30⟩ := und30
  obtain ⟨d39, hd39, hrow39⟩ := und39
  have HW1 := Lib.hid hw1
  have HB1 := Lib.hid hb1
  have HX1 := Lib.hid hX1
  have HN1 := Lib.hid hN1
  have H := Lib.hid h
  clear hw1 hb1 hX1 hN1 h
  unfold netV
  go_enter Try.func14, Try.ntmps14
  go_upto_region 1 with fail
  rw [← HW1.out]
  go_wp2_with (refine wpList_load_mid rfl 30 (.tmp 2) rfl w.heap.size 0 rfl [.slice A n c] d30 (net_row HX1.out) hd30 hrow30 (by kernel_rfl) ?_)
  refine hh.mono ?_
  rintro e w2 ⟨rfl, hb2⟩
  have hX2 := HX1.out.below hb2 HX1.out.lt
  have hN2 := HN1.out.below hb2 HN1.out.lt
  have hB2 : Below w.heap.size w w2 := HB1.out.trans (hb2.mono HB1.out.size)
  have hK2 := (H.out.below HB1.out).below hb2
  have c2 : w2.cell? ⟨w.heap.size, 0, none⟩ = some (.slice A n c) := (hX2.cell 0).trans rfl
  by_cases hi : 0 ≤ i ∧ i < (n : Int)
  · rw [decide_eq_true hi]
    obtain ⟨k, rfl⟩ := Int.eq_ofNat_of_zero_le hi.1
    have hkn : k < n := by omega
    have hk0 : (0 : Int) ≤ (k : Int) := by omega
    have hkn' : (k : Int) < (n : Int) := by omega
    by_cases h64 : 64 ≤ n
    · have d64 : decide ((n : Int) ≥ 64) = true := decide_eq_true (by omega)
      have d65 : (64 : Int) ≤ (n : Int) := by omega
      obtain ⟨hB, hE⟩ := net_store (A := A) (n := n) (c := c) (e := 2) hB2 (Nat.le_succ _) hN2 hK2 hnc
      have e : doubleP ps (k : Int) = (ps, 2) := by unfold doubleP; rw [if_pos ⟨hk0, by rw [hpl]; exact hkn'⟩, if_pos (by rw [hpl]; exact h64)]
      rw [← e] at hE
      have HB := Lib.hid hB
      have HE := Lib.hid hE
      clear hB hE
      go_wp2_with (first | (refine wpList_load_mid rfl 30 (.tmp 2) rfl w.heap.size 0 rfl [.slice A n c] d30 (net_row hX2) hd30 hrow30 (by kernel_rfl) ?_) | (refine wpList_store_row rfl 30 (.tmp 4) (.tmp 17) rfl (w.heap.size + 1) #[.slice A n c] rfl rfl 30 _ hN2 (size30 _ rfl) rfl (net_one _ _ _) ?_))
      exact bodyPost_ret (results_row_tmp (p := 4) (u := 5) rfl _ _ (w.heap.size + 1) _ _ (0, 0) d30 rfl HB.out hd30 hrow30 (size30 _ rfl)) rfl HE.out
    · have d64 : decide ((n : Int) ≥ 64) = false := decide_eq_false (by omega)
      have d65 : ¬ (64 : Int) ≤ (n : Int) := by omega
      obtain ⟨vs, ht, hp⟩ := H.out
      have hvl := ht.1.lenf pvC_len (by omega)
      obtain ⟨v, hv⟩ : ∃ q, vs[k]? = some q := ⟨_, List.getElem?_eq_getElem (by omega)⟩
      obtain ⟨p, hpk⟩ : ∃ q, ps[k]? = some q := ⟨_, List.getElem?_eq_getElem (by omega)⟩
      obtain ⟨cb, co, hAe, _⟩ := ht.1.2.2 (by omega)
      subst hAe
      obtain ⟨SS, hSS⟩ : ∃ SS : World → Prop, SS = fun W => Below w2.heap.size w2 W := ⟨_, rfl⟩
      have hst : SS w2.drew := by rw [hSS]; exact (Below.refl w2.heap.size w2).drew
      have hcell : ∀ W, SS W → W.cell? ⟨w.heap.size, 0, none⟩ = some (.slice (some ⟨cb, co, none⟩) n c) := fun W hW => by
        rw [hSS] at hW
        exact ((hX2.below hW hX2.lt).cell 0).trans rfl
      have hrowN : ∀ W, SS W → W.rangeAt w.heap.size 0 [.slice (some ⟨cb, co, none⟩) n c] := fun W hW => by
        rw [hSS] at hW
        exact net_row (hX2.below hW hX2.lt)
      have hrowK : ∀ W, SS W → W.rangeAt cb (co + k * 7) (pvC v) := fun W hW => by
        rw [hSS] at hW
        exact rd_row pvC_len (by omega) (((ht.below HB1.out).below hb2).below hW).1 hv
      have hdp : doubleP ps (k : Int) = (ps ++ [p].take (64 - n), 0) := by
        unfold doubleP
        rw [if_pos ⟨hk0, by rw [hpl]; exact hkn'⟩, if_neg (by rw [hpl]; exact h64), Int.toNat_natCast, List.getD_eq_getElem?_getD, hpk, List.take_of_length_le (by simp; omega)]
        rfl
      have hsl := run_pk_lh (some ⟨cb, co, none⟩) n c k (k + 1) (by omega) (by omega)
      obtain ⟨A', hA', -⟩ := dropK_if cb co c k
      rw [hA', show k + 1 - k = 1 by omega] at hsl
      have hone : ∀ W, SS W → PksAt W A' 1 [p] := fun W hW => by
        rw [hSS] at hW
        have h := ((hK2.below hW).drop (i := k) (c := c) (by omega) hnc).take (i := 1) (by omega)
        rwa [hA', List.take_one, List.head?_drop, hpk] at h
      have hk1 : ((k : Int) + 1) = ((k + 1 : Nat) : Int) := by push_cast; rfl
      have hwrap : IntKind.i64.wrap ((k : Int) + 1) = (k : Int) + 1 := by rw [IntKind.wrap_i64]; omega
      go_upto_region 5 with fail
      refine wp_region_reads_tailN (S := SS) 8 [0, 1, 2, 3, 4, 5, 6] 1 (by kernel_rfl) (List.take_append_drop _ _) rfl (by kernel_rfl) (by kernel_rfl) (by kernel_rfl) (by decide) (by kernel_rfl) (by kernel_rfl) (fun _ _ d _ _ h => by cases d <;> exact h) (by kernel_rfl) (by kernel_rfl) rfl hst ?_
      refine wpQuiet_load_mid_g (by kernel_rfl) 30 (.tmp 2) rfl w.heap.size (0) rfl ([.slice (some ⟨cb, co, none⟩) n c]) d30 hrowN hd30 hrow30 (by kernel_rfl) ?_
      simp only [Act.put, List.setIfInBounds_toArray, List.set_cons_succ, List.set_cons_zero]
      refine wpQuiet_val rfl (.pointer (some ⟨w.heap.size, 0, none⟩)) (fun W hW => by first | rfl | simp [execOp, go_sem]) ?_
      simp only [Act.put, List.setIfInBounds_toArray, List.set_cons_succ, List.set_cons_zero]
      refine wpQuiet_val rfl (.slice (some ⟨cb, co, none⟩) n c) (fun W hW => by have h0 := hcell W hW; first | rfl | simp [execOp, go_sem, h0]) ?_
      simp only [Act.put, List.setIfInBounds_toArray, List.set_cons_succ, List.set_cons_zero]
      refine wpQuiet_val rfl (.int .i64 (k : Int)) (fun W hW => by first | rfl | simp [execOp, go_sem]) ?_
      simp only [Act.put, List.setIfInBounds_toArray, List.set_cons_succ, List.set_cons_zero]
      refine wpQuiet_val rfl (.int .i64 (k : Int)) (fun W hW => by first | rfl | simp [execOp, go_sem]) ?_
      simp only [Act.put, List.setIfInBounds_toArray, List.set_cons_succ, List.set_cons_zero]
      refine wpQuiet_val rfl (.int .i64 ((k + 1 : Nat) : Int)) (fun W hW => by rw [← hk1]; simp [execOp, go_sem, hwrap]) ?_
      simp only [Act.put, List.setIfInBounds_toArray, List.set_cons_succ, List.set_cons_zero]
      refine wpQuiet_val rfl (.slice A' 1 (c - k)) (fun W hW => run_slice_op (.tmp 20) (some (.tmp 21)) (some (.tmp 23)) none rfl _ W (hsl W)) ?_
      simp only [Act.put, List.setIfInBounds_toArray, List.set_cons_succ, List.set_cons_zero]
      refine wpQuiet_nil ?_
      refine wpAnyH_val (i := 7) (by kernel_rfl) (by rfl) (by rfl) ?_
      have hse := Send_any (some ⟨cb, co, none⟩) n c ps A' 1 (c - k) [p] w2.drew (hK2.below ((Below.refl _ w2).drew)) (hone _ hst) (by omega) (by omega) (by omega)
      unfold netV at hse
      refine val_callp 20 _ _ rfl (by kernel_rfl) [.agg #[.slice (some ⟨cb, co, none⟩) n c], .slice A' 1 (c - k)] rfl (hse.mono ?_)
      rintro e w5 ⟨⟨A5, c5, rfl, hc5, hq5, hf5⟩, hb5⟩
      left
      replace hb5 : Below w2.heap.size w2 w5 := ((Below.refl w2.heap.size w2).drew).trans hb5
      refine ⟨_, rfl, by rw [hSS]; exact hb5, ?_⟩
      unfold netV
      simp only [Act.put, List.setIfInBounds_toArray, List.set_cons_succ, List.set_cons_zero]
      refine wpAnyH_done (by kernel_rfl) ?_
      obtain ⟨hB, hE⟩ := net_store (c := c5) (e := 0) (hB2.trans (hb5.mono hB2.size)) (Nat.le_succ _) (hN2.below hb5 hN2.lt) hq5 hc5
      rw [← hdp] at hE
      have HB := Lib.hid hB
      have HE := Lib.hid hE
      have HN5 := Lib.hid (hN2.below hb5 hN2.lt)
      simp only [Exit.then, List.drop_succ_cons, List.drop_zero]
      refine wpList_store_row rfl 30 (.tmp 4) (.tmp 25) rfl (w.heap.size + 1) #[.slice A5 (n + min 1 (64 - n)) c5] rfl rfl 30 _ HN5.out (size30 _ rfl) rfl (net_one _ _ _) ?_
      simp only [Act.put]
      clear hB hE HN5 hq5 hf5 hb5 hrowK hrowN hcell hst hSS hp ht hX2 hN2 hB2 hK2 hb2
      go_wp2_with fail
      exact bodyPost_ret (results_row_tmp (p := 4) (u := 5) rfl _ _ (w.heap.size + 1) _ _ (0, 0) d30 rfl HB.out hd30 hrow30 (size30 _ rfl)) rfl HE.out
  · rw [decide_eq_false hi]
    obtain ⟨hB, hE⟩ := net_store (A := A) (n := n) (c := c) (e := 310) hB2 (Nat.le_succ _) hN2 hK2 hnc
    have e : doubleP ps i = (ps, 310) := by unfold doubleP; rw [if_neg (by rw [hpl]; exact hi)]
    rw [← e] at hE
    have HB := Lib.hid hB
    have HE := Lib.hid hE
    clear hB hE
    go_wp2_with (first | (refine wpList_load_mid rfl 30 (.tmp 2) rfl w.heap.size 0 rfl [.slice A n c] d30 (net_row hX2) hd30 hrow30 (by kernel_rfl) ?_) | (refine wpList_store_row rfl 30 (.tmp 4) (.tmp 11) rfl (w.heap.size + 1) #[.slice A n c] rfl rfl 30 _ hN2 (size30 _ rfl) rfl (net_one _ _ _) ?_))
    exact bodyPost_ret (results_row_tmp (p := 4) (u := 5) rfl _ _ (w.heap.size + 1) _ _ (0, 0) d30 rfl HB.out hd30 hrow30 (size30 _ rfl)) rfl HE.out
set_option maxRecDepth 100000 in
set_option maxHeartbeats 1000000 in
theorem RDouble_any (A : Option Addr) (n c : Nat) (ps : List Pk) (i : Int) (w : World) (h : PksAt w A n ps) (hnc : n ≤ c) (hn : n ≤ 10000) :
    Calls Try.prog 15 #[netV A n c, .int .i64 i] w (NetQ (doubleP ps i) w) := by
  have hpl := h.len
  obtain ⟨w1, hw1⟩ : ∃ q, q = (w.alloc (.cells #[.slice A n c] 30)).alloc (.cells #[.slice none 0 0] 30) := ⟨_, rfl⟩
  have hb1 : Below w.heap.size w w1 := by rw [hw1]; exact ((Below.refl _ _).alloc (Nat.le_refl _) _).alloc (by rw [World.size_alloc]; omega) _
  have hX1 : Blk w1 w.heap.size 30 #[.slice A n c] := by rw [hw1]; exact (Blk.new w _ _).alloc _
  have hN1 : Blk w1 (w.heap.size + 1) 30 #[.slice none 0 0] := by
    rw [hw1]
    have h := Blk.new (w.alloc (.cells #[.slice A n c] 30)) 30 #[.slice none 0 0]
    rwa [World.size_alloc] at h
  have hh := Rhas_any A n c i w1
  unfold netV at hh
  obtain ⟨d30, hd30, hrow30⟩ := und30
  obtain ⟨d39, hd39, hrow39⟩ := und39
  have HW1 := Lib.hid hw1
  have HB1 := Lib.hid hb1
  have HX1 := Lib.hid hX1
  have HN1 := Lib.hid hN1
  have H := Lib.hid h
  clear hw1 hb1 hX1 hN1 h
  unfold netV
  go_enter Try.func15, Try.ntmps15
  go_upto_region 1 with fail
  rw [← HW1.out]
  go_wp2_with (refine wpList_load_mid rfl 30 (.tmp 2) rfl w.heap.size 0 rfl [.slice A n c] d30 (net_row HX1.out) hd30 hrow30 (by kernel_rfl) ?_)
  refine hh.mono ?_
  rintro e w2 ⟨rfl, hb2⟩
  have hX2 := HX1.out.below hb2 HX1.out.lt
  have hN2 := HN1.out.below hb2 HN1.out.lt
  have hB2 : Below w.heap.size w w2 := HB1.out.trans (hb2.mono HB1.out.size)
  have hK2 := (H.out.below HB1.out).below hb2
  have c2 : w2.cell? ⟨w.heap.size, 0, none⟩ = some (.slice A n c) := (hX2.cell 0).trans rfl
  by_cases hi : 0 ≤ i ∧ i < (n : Int)
  · rw [decide_eq_true hi]
    obtain ⟨k, rfl⟩ := Int.eq_ofNat_of_zero_le hi.1
    have hkn : k < n := by omega
    have hk0 : (0 : Int) ≤ (k : Int) := by omega
    have hkn' : (k : Int) < (n : Int) := by omega
    by_cases h64 : 64 ≤ n
    · have d64 : decide ((n : Int) ≥ 64) = true := decide_eq_true (by omega)
      have d65 : (64 : Int) ≤ (n : Int) := by omega
      obtain ⟨hB, hE⟩ := net_store (A := A) (n := n) (c := c) (e := 2) hB2 (Nat.le_succ _) hN2 hK2 hnc
      have e : doubleP ps (k : Int) = (ps, 2) := by unfold doubleP; rw [if_pos ⟨hk0, by rw [hpl]; exact hkn'⟩, if_pos (by rw [hpl]; exact h64)]
      rw [← e] at hE
      have HB := Lib.hid hB
      have HE := Lib.hid hE
      clear hB hE
      go_wp2_with (first | (refine wpList_load_mid rfl 30 (.tmp 2) rfl w.heap.size 0 rfl [.slice A n c] d30 (net_row hX2) hd30 hrow30 (by kernel_rfl) ?_) | (refine wpList_store_row rfl 30 (.tmp 4) (.tmp 15) rfl (w.heap.size + 1) #[.slice A n c] rfl rfl 30 _ hN2 (size30 _ rfl) rfl (net_one _ _ _) ?_))
      exact bodyPost_ret (results_row_tmp (p := 4) (u := 5) rfl _ _ (w.heap.size + 1) _ _ (0, 0) d30 rfl HB.out hd30 hrow30 (size30 _ rfl)) rfl HE.out
    · have d64 : decide ((n : Int) ≥ 64) = false := decide_eq_false (by omega)
      have d65 : ¬ (64 : Int) ≤ (n : Int) := by omega
      obtain ⟨vs, ht, hp⟩ := H.out
      have hvl := ht.1.lenf pvC_len (by omega)
      obtain ⟨v, hv⟩ : ∃ q, vs[k]? = some q := ⟨_, List.getElem?_eq_getElem (by omega)⟩
      obtain ⟨p, hpk⟩ : ∃ q, ps[k]? = some q := ⟨_, List.getElem?_eq_getElem (by omega)⟩
      obtain ⟨cb, co, hAe, _⟩ := ht.1.2.2 (by omega)
      subst hAe
      obtain ⟨SS, hSS⟩ : ∃ SS : World → Prop, SS = fun W => Below w2.heap.size w2 W := ⟨_, rfl⟩
      have hst : SS w2.drew := by rw [hSS]; exact (Below.refl w2.heap.size w2).drew
      have hcell : ∀ W, SS W → W.cell? ⟨w.heap.size, 0, none⟩ = some (.slice (some ⟨cb, co, none⟩) n c) := fun W hW => by
        rw [hSS] at hW
        exact ((hX2.below hW hX2.lt).cell 0).trans rfl
      have hrowN : ∀ W, SS W → W.rangeAt w.heap.size 0 [.slice (some ⟨cb, co, none⟩) n c] := fun W hW => by
        rw [hSS] at hW
        exact net_row (hX2.below hW hX2.lt)
      have hrowK : ∀ W, SS W → W.rangeAt cb (co + k * 7) (pvC v) := fun W hW => by
        rw [hSS] at hW
        exact rd_row pvC_len (by omega) (((ht.below HB1.out).below hb2).below hW).1 hv
      have hdp : doubleP ps (k : Int) = (ps ++ [p].take (64 - n), 0) := by
        unfold doubleP
        rw [if_pos ⟨hk0, by rw [hpl]; exact hkn'⟩, if_neg (by rw [hpl]; exact h64), Int.toNat_natCast, List.getD_eq_getElem?_getD, hpk, List.take_of_length_le (by simp; omega)]
        rfl
      obtain ⟨i39, hi39, hz39, hs39, hy39⟩ := info_parts info39
      go_upto_region 5 with fail
      refine wp_region_reads_tailN (S := SS) 8 [0, 1, 2, 3, 4, 5] 2 (by kernel_rfl) (List.take_append_drop _ _) rfl (by kernel_rfl) (by kernel_rfl) (by kernel_rfl) (by decide) (by kernel_rfl) (by kernel_rfl) (fun _ _ d _ _ h => by cases d <;> exact h) (by kernel_rfl) (by kernel_rfl) rfl hst ?_
      refine wpQuiet_load_mid_g (by kernel_rfl) 30 (.tmp 2) rfl w.heap.size (0) rfl ([.slice (some ⟨cb, co, none⟩) n c]) d30 hrowN hd30 hrow30 (by kernel_rfl) ?_
      simp only [Act.put, List.setIfInBounds_toArray, List.set_cons_succ, List.set_cons_zero]
      refine wpQuiet_val rfl (.pointer (some ⟨w.heap.size, 0, none⟩)) (fun W hW => by first | rfl | simp [execOp, go_sem]) ?_
      simp only [Act.put, List.setIfInBounds_toArray, List.set_cons_succ, List.set_cons_zero]
      refine wpQuiet_val rfl (.slice (some ⟨cb, co, none⟩) n c) (fun W hW => by have h0 := hcell W hW; first | rfl | simp [execOp, go_sem, h0]) ?_
      simp only [Act.put, List.setIfInBounds_toArray, List.set_cons_succ, List.set_cons_zero]
      refine wpQuiet_val rfl (.int .i64 (k : Int)) (fun W hW => by first | rfl | simp [execOp, go_sem]) ?_
      simp only [Act.put, List.setIfInBounds_toArray, List.set_cons_succ, List.set_cons_zero]
      refine wpQuiet_val rfl (.pointer (some ⟨cb, co + k * 7, none⟩)) (fun W hW => by simp [execOp, go_sem, hk0, hkn']) ?_
      simp only [Act.put, List.setIfInBounds_toArray, List.set_cons_succ, List.set_cons_zero]
      refine wpQuiet_load_mid_g (by kernel_rfl) 39 (.tmp 20) rfl cb (co + k * 7) rfl (pvC v) d39 hrowK hd39 hrow39 (by kernel_rfl) ?_
      simp only [Act.put, List.setIfInBounds_toArray, List.set_cons_succ, List.set_cons_zero]
      refine wpQuiet_nil ?_
      refine wpAnyH_val (i := 6) (by kernel_rfl) (by rfl) (by rfl) ?_
      refine valB (fun W' hb => by rw [hSS] at hst ⊢; exact hst.trans hb) ?_
      refine val_build1 rfl 28 39 (.tmp 21) rfl (pvC v).toArray i39 _ 7 Try.underlying28 hi39 hz39 hs39 (by omega) (by decide) rfl rfl ?_
      obtain ⟨w3, hw3⟩ : ∃ q, q = w2.drew.alloc (.cells (pvC v).toArray 39) := ⟨_, rfl⟩
      have hb3 : Below w2.heap.size w2 w3 := by rw [hw3]; exact ((Below.refl w2.heap.size w2).drew).alloc (Nat.le_refl _) _
      have hX3 : Blk w3 w2.heap.size 39 (pvC v).toArray := by rw [hw3]; exact Blk.new _ _ _
      rw [← hw3]
      have hone : PksAt w3 (some ⟨w2.heap.size, 0, none⟩) 1 [p] := ⟨[v], ⟨rd7_one hX3, fun _ b off e => by cases e; exact ⟨_, hX3⟩⟩, .one ((((hp.2 k v p hv hpk).below HB1.out).below hb2).below hb3)⟩
      simp only [Act.put, List.setIfInBounds_toArray, List.set_cons_succ, List.set_cons_zero]
      refine wpAnyH_val (i := 7) (by kernel_rfl) (by rfl) (by rfl) ?_
      have hse := RSend_any (some ⟨cb, co, none⟩) n c ps (some ⟨w2.heap.size, 0, none⟩) 1 1 [p] w3 (hK2.below hb3) hone (by omega) (by omega)
      unfold netV at hse
      refine val_callp 21 _ _ rfl (by kernel_rfl) [.agg #[.slice (some ⟨cb, co, none⟩) n c], .slice (some ⟨w2.heap.size, 0, none⟩) 1 1] rfl (hse.mono ?_)
      rintro e w5 ⟨⟨A5, c5, rfl, hc5, hq5, hf5⟩, hb5⟩
      left
      replace hb5 : Below w2.heap.size w2 w5 := hb3.trans (hb5.mono hb3.size)
      refine ⟨_, rfl, by rw [hSS]; exact hb5, ?_⟩
      unfold netV
      simp only [Act.put, List.setIfInBounds_toArray, List.set_cons_succ, List.set_cons_zero]
      refine wpAnyH_done (by kernel_rfl) ?_
      obtain ⟨hB, hE⟩ := net_store (c := c5) (e := 0) (hB2.trans (hb5.mono hB2.size)) (Nat.le_succ _) (hN2.below hb5 hN2.lt) hq5 hc5
      rw [← hdp] at hE
      have HB := Lib.hid hB
      have HE := Lib.hid hE
      have HN5 := Lib.hid (hN2.below hb5 hN2.lt)
      simp only [Exit.then, List.drop_succ_cons, List.drop_zero]
      refine wpList_store_row rfl 30 (.tmp 4) (.tmp 23) rfl (w.heap.size + 1) #[.slice A5 (n + min 1 (64 - n)) c5] rfl rfl 30 _ HN5.out (size30 _ rfl) rfl (net_one _ _ _) ?_
      simp only [Act.put]
      clear hB hE HN5 hq5 hf5 hb5 hrowK hrowN hcell hst hSS hp ht hX2 hN2 hB2 hK2 hb2
      go_wp2_with fail
      exact bodyPost_ret (results_row_tmp (p := 4) (u := 5) rfl _ _ (w.heap.size + 1) _ _ (0, 0) d30 rfl HB.out hd30 hrow30 (size30 _ rfl)) rfl HE.out
  · rw [decide_eq_false hi]
    obtain ⟨hB, hE⟩ := net_store (A := A) (n := n) (c := c) (e := 310) hB2 (Nat.le_succ _) hN2 hK2 hnc
    have e : doubleP ps i = (ps, 310) := by unfold doubleP; rw [if_neg (by rw [hpl]; exact hi)]
    rw [← e] at hE
    have HB := Lib.hid hB
    have HE := Lib.hid hE
    clear hB hE
    go_wp2_with (first | (refine wpList_load_mid rfl 30 (.tmp 2) rfl w.heap.size 0 rfl [.slice A n c] d30 (net_row hX2) hd30 hrow30 (by kernel_rfl) ?_) | (refine wpList_store_row rfl 30 (.tmp 4) (.tmp 10) rfl (w.heap.size + 1) #[.slice A n c] rfl rfl 30 _ hN2 (size30 _ rfl) rfl (net_one _ _ _) ?_))
    exact bodyPost_ret (results_row_tmp (p := 4) (u := 5) rfl _ _ (w.heap.size + 1) _ _ (0, 0) d30 rfl HB.out hd30 hrow30 (size30 _ rfl)) rfl HE.out
end Go.Proofs.Yteofgkdpknaapaa
