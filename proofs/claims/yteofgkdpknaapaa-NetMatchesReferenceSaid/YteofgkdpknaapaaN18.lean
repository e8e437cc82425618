/- Package net: has, without, Send; the reference's too. -/
import Derived.Test.YteofgkdpknaapaaN17
namespace Go.Proofs.Yteofgkdpknaapaa
open Go.RowKit Go.Sort

/-- A net, as a value. -/
def netV (A : Option Addr) (n c : Nat) : Value := .agg #[.slice A n c]
/-- What a function answers that hands back packets. -/
def PksR (N : Nat) (ps : List Pk) (w : World) (e : Ending) (w' : World) : Prop := (∃ A c, e = .returned (netV A N c) ∧ N ≤ c ∧ PksAt w' A N ps ∧ ∀ b off, A = some ⟨b, off, none⟩ → w.heap.size ≤ b) ∧ Below w.heap.size w w'
theorem size30 (cs : Array Value) (h : cs.size = 1) : (Try.prog.info? 30).map (·.size) = some cs.size := by rw [h]; kernel_rfl
theorem und30 : ∃ d, Try.prog.underlying 30 = some d ∧ d.isRow = true := by
  obtain ⟨d, h1, h2⟩ := Option.map_eq_some_iff.1 (show (Try.prog.underlying 30).map (·.isRow) = some true by kernel_rfl)
  exact ⟨d, h1, h2⟩
theorem PksAt.of {w' : World} {A' : Option Addr} {m : Nat} {qs : List Pk} {us : List Pv} (ht : TRd w' 39 7 A' m (us.flatMap pvC)) (hp : PvsOk w' us qs) : PksAt w' A' m qs := ⟨us, ht, hp⟩
theorem PvsOk.erase {w : World} {vs : List Pv} {ps : List Pk} (h : PvsOk w vs ps) (i : Nat) : PvsOk w (vs.eraseIdx i) (ps.eraseIdx i) := by
  rw [List.eraseIdx_eq_take_drop_succ, List.eraseIdx_eq_take_drop_succ]
  exact (h.take i).app (h.drop (i + 1))
set_option maxRecDepth 100000 in
theorem has_any (A : Option Addr) (n c : Nat) (i : Int) (w : World) : Calls Try.prog 29 #[netV A n c, .int .i64 i] w fun e w' => e = .returned (.bool (decide (0 ≤ i ∧ i < (n : Int)))) ∧ Below w.heap.size w w' := by
  have hb : Below w.heap.size w (w.alloc (.cells #[.slice A n c] 30)) := (Below.refl _ _).alloc (Nat.le_refl _) _
  unfold netV
  by_cases h0 : 0 ≤ i
  · have d0 : decide (0 ≤ i) = true := decide_eq_true h0
    by_cases h1 : i < (n : Int)
    · have d1 : decide (i < (n : Int)) = true := decide_eq_true h1
      go_enter Try.func29, Try.ntmps29
      go_wp2_with fail
      go_ret
      exact ⟨by rw [decide_eq_true (show 0 ≤ i ∧ i < (n : Int) from ⟨h0, h1⟩)]; rfl, hb⟩
    · have d1 : decide (i < (n : Int)) = false := decide_eq_false h1
      go_enter Try.func29, Try.ntmps29
      go_wp2_with fail
      go_ret
      exact ⟨rfl, hb⟩
  · have d0 : decide (0 ≤ i) = false := decide_eq_false h0
    go_enter Try.func29, Try.ntmps29
    go_wp2_with fail
    go_ret
    exact ⟨rfl, hb⟩
set_option maxRecDepth 100000 in
theorem Rhas_any (A : Option Addr) (n c : Nat) (i : Int) (w : World) : Calls Try.prog 31 #[netV A n c, .int .i64 i] w fun e w' => e = .returned (.bool (decide (0 ≤ i ∧ i < (n : Int)))) ∧ Below w.heap.size w w' := by
  have hb : Below w.heap.size w (w.alloc (.cells #[.slice A n c] 30)) := (Below.refl _ _).alloc (Nat.le_refl _) _
  unfold netV
  by_cases h0 : 0 ≤ i
  · have d0 : decide (0 ≤ i) = true := decide_eq_true h0
    by_cases h1 : i < (n : Int)
    · have d1 : decide (i < (n : Int)) = true := decide_eq_true h1
      go_enter Try.func31, Try.ntmps31
      go_wp2_with fail
      go_ret
      exact ⟨by rw [decide_eq_true (show 0 ≤ i ∧ i < (n : Int) from ⟨h0, h1⟩)]; rfl, hb⟩
    · have d1 : decide (i < (n : Int)) = false := decide_eq_false h1
      go_enter Try.func31, Try.ntmps31
      go_wp2_with fail
      go_ret
      exact ⟨rfl, hb⟩
  · have d0 : decide (0 ≤ i) = false := decide_eq_false h0
    go_enter Try.func31, Try.ntmps31
    go_wp2_with fail
    go_ret
    exact ⟨rfl, hb⟩
set_option maxRecDepth 100000 in
set_option maxHeartbeats 1000000 in
theorem without_any (A : Option Addr) (n c i : Nat) (ps : List Pk) (w : World) (h : PksAt w A n ps) (hi : i < n) (hn : n ≤ 10000) :
    Calls Try.prog 30 #[netV A n c, .int .i64 (i : Int)] w (PksR (n - 1) (ps.eraseIdx i) w) := by
  obtain ⟨vs, ht, hp⟩ := h
  obtain ⟨w1, hw1⟩ : ∃ q, q = (w.alloc (.cells #[.slice A n c] 30)).alloc (.cells #[.slice none 0 0] 30) := ⟨_, rfl⟩
  have hb1 : Below w.heap.size w w1 := by rw [hw1]; exact ((Below.refl _ _).alloc (Nat.le_refl _) _).alloc (by rw [World.size_alloc]; omega) _
  have hN1 : Blk w1 (w.heap.size + 1) 30 #[.slice none 0 0] := by
    rw [hw1]
    have h := Blk.new (w.alloc (.cells #[.slice A n c] 30)) 30 #[.slice none 0 0]
    rwa [World.size_alloc] at h
  have c1 : w1.cell? ⟨w.heap.size, 0, none⟩ = some (.slice A n c) := by
    rw [hw1]
    exact (((Blk.new w 30 #[.slice A n c]).alloc _).cell 0).trans rfl
  have hc := PClone_any A n c vs w1 (ht.1.below hb1) (by omega)
  have HW1 := Lib.hid hw1
  have HB1 := Lib.hid hb1
  have HN1 := Lib.hid hN1
  have Hp := Lib.hid (hp.below hb1)
  clear ht hp hw1 hb1 hN1
  unfold netV
  go_enter Try.func30, Try.ntmps30
  go_upto_region 1 with fail
  rw [← HW1.out]
  clear HW1
  go_wp2_with fail
  refine hc.mono ?_
  rintro e w2 ⟨⟨v2, rfl, ha2⟩, hb2⟩
  have hd := PDelete_any w1.heap.size v2 n i vs w2 ha2 hi (by omega) hb2.size
  have HB2 := Lib.hid hb2
  clear hc ha2 hb2
  go_wp2_with fail
  refine hd.mono ?_
  rintro e w3 ⟨⟨A3, c3, rfl, hc3, ht3, hf3⟩, hs3⟩
  have hb3 : Below w1.heap.size w1 w3 := HB2.out.trans (hs3.below HB2.out.size)
  have hN3 := HN1.out.below hb3 HN1.out.lt
  have c3' : w3.cell? ⟨w.heap.size + 1, 0, none⟩ = some (.slice none 0 0) := (hN3.cell 0).trans rfl
  have z3 := hN3.frozen 0
  obtain ⟨w4, hw4⟩ : ∃ q, q = w3.setCell ⟨w.heap.size + 1, 0, none⟩ (.slice A3 (n - 1) c3) := ⟨_, rfl⟩
  have hN4 : Blk w4 (w.heap.size + 1) 30 #[.slice A3 (n - 1) c3] := by rw [hw4]; exact heap_setCell_same w3 (w.heap.size + 1) 0 _ _ _ hN3
  have hk4 : KeptIn (fun q => q ≠ w.heap.size + 1) w3 w4 := by rw [hw4]; exact (KeptIn.refl _ w3).setAt (fun hk => hk rfl) _
  have hb4 : Below w.heap.size w w4 := HB1.out.trans ((hb3.mono HB1.out.size).trans (KeptIn.below hk4 fun q hq => by omega))
  have ht4 : TRd w4 39 7 A3 (n - 1) ((vs.eraseIdx i).flatMap pvC) := ht3.keptIn hk4 (fun b cur hb => hb.ne hN3 (by decide))
  have hp4 : PvsOk w4 (vs.eraseIdx i) (ps.eraseIdx i) := ((Hp.out.below hb3).keptIn hk4 (fun b cur hb => hb.ne hN3 (by decide)) (fun b cur hb => hb.ne hN3 (by decide)) (fun b cur hb => hb.ne hN3 (by decide))).erase i
  have e4 : w4.cell? ⟨w.heap.size + 1, 0, none⟩ = some (.slice A3 (n - 1) c3) := (hN4.cell 0).trans rfl
  have Hend := Lib.hid (show PksR (n - 1) (ps.eraseIdx i) w (.returned (netV A3 (n - 1) c3)) w4 from ⟨⟨A3, c3, rfl, hc3, ⟨_, ht4, hp4⟩, fun b off e => Nat.le_trans HB1.out.size (hf3 b off e)⟩, hb4⟩)
  have HW4 := Lib.hid hw4
  have HN4 := Lib.hid hN4
  obtain ⟨d30, hd30, hrow30⟩ := und30
  clear hd ht3 hs3 hb3 hN3 hN4 hk4 hb4 ht4 hp4 hw4
  go_wp2_with fail
  rw [← HW4.out]
  exact bodyPost_ret (results_cell_row rfl _ _ (w.heap.size + 1) 30 _ (0, 0) _ rfl HN4.out hd30 (by cases d30 <;> first | rfl | (cases hrow30)) (size30 _ rfl)) rfl Hend.out
/-- The packets are laid into the result's variable. -/
theorem pks_store {w w3 : World} {R N c : Nat} {A : Option Addr} {v0 : Value} {us : List Pv} {qs : List Pk} (hb : Below w.heap.size w w3) (hR : w.heap.size ≤ R) (hN : Blk w3 R 30 #[v0]) (ht : TRd w3 39 7 A N (us.flatMap pvC)) (hp : PvsOk w3 us qs) (hc : N ≤ c) (hf : ∀ b off, A = some ⟨b, off, none⟩ → w.heap.size ≤ b) :
    Blk (w3.setCell ⟨R, 0, none⟩ (.slice A N c)) R 30 #[.slice A N c] ∧ PksR N qs w (.returned (netV A N c)) (w3.setCell ⟨R, 0, none⟩ (.slice A N c)) := by
  have hk4 : KeptIn (fun q => q ≠ R) w3 (w3.setCell ⟨R, 0, none⟩ (.slice A N c)) := (KeptIn.refl _ w3).setAt (fun hk => hk rfl) _
  have hs : ∀ t, t ≠ 30 → ∀ b cur, Blk w3 b t cur → b ≠ R := fun t h b cur hb => hb.ne hN h
  exact ⟨heap_setCell_same w3 R 0 _ _ _ hN, ⟨A, c, rfl, hc, ⟨_, ht.keptIn hk4 (hs _ (by decide)), hp.keptIn hk4 (hs _ (by decide)) (hs _ (by decide)) (hs _ (by decide))⟩, hf⟩, hb.trans (KeptIn.below hk4 fun q hq => by omega)⟩
/-- Where the rest behind a place begins, as the walk says it. -/
theorem dropK_if (b off c i : Nat) : ∃ q : Option Addr, dropK (some ⟨b, off, none⟩) c i = q ∧ (if c = i then (some ⟨b, off, none⟩ : Option Addr) else some ⟨b, off + i * 7, none⟩) = q := by
  refine ⟨_, rfl, ?_⟩
  unfold dropK
  split
  · rfl
  · rw [Option.map_some]
    congr 1
    unfold Addr.add
    split <;> simp_all
set_option maxRecDepth 100000 in
set_option maxHeartbeats 1000000 in
theorem Rwithout_any (A : Option Addr) (n c i : Nat) (ps : List Pk) (w : World) (h : PksAt w A n ps) (hi : i < n) (hnc : n ≤ c) (hn : n ≤ 10000) :
    Calls Try.prog 32 #[netV A n c, .int .i64 (i : Int)] w (PksR (n - 1) (ps.eraseIdx i) w) := by
  obtain ⟨i39, hi39, hz39, hs39, hy39⟩ := info_parts info39
  obtain ⟨vs, ht, hp⟩ := h
  obtain ⟨w1, hw1⟩ : ∃ q, q = (w.alloc (.cells #[.slice A n c] 30)).alloc (.cells #[.slice none 0 0] 30) := ⟨_, rfl⟩
  have hb1 : Below w.heap.size w w1 := by rw [hw1]; exact ((Below.refl _ _).alloc (Nat.le_refl _) _).alloc (by rw [World.size_alloc]; omega) _
  have hsz1 : w1.heap.size = w.heap.size + 1 + 1 := by rw [hw1, World.size_alloc, World.size_alloc]
  have hN1 : Blk w1 (w.heap.size + 1) 30 #[.slice none 0 0] := by
    rw [hw1]
    have h := Blk.new (w.alloc (.cells #[.slice A n c] 30)) 30 #[.slice none 0 0]
    rwa [World.size_alloc] at h
  have hX1 : Blk w1 w.heap.size 30 #[.slice A n c] := by
    rw [hw1]
    exact (Blk.new w 30 #[.slice A n c]).alloc _
  obtain ⟨w2, hw2⟩ : ∃ q, q = w1.alloc (.cells #[] 39) := ⟨_, rfl⟩
  have hb2 : Below w1.heap.size w1 w2 := by rw [hw2]; exact (Below.refl _ _).alloc (Nat.le_refl _) _
  have ha2 : AppZ w2 w1.heap.size 39 7 (.slice (some ⟨w1.heap.size, 0, none⟩) 0 0) 0 [] := by rw [hw2]; exact AppZ.empty w1 (Nat.le_refl _) _
  rw [hsz1] at ha2
  have hsl : (vs.take i).flatMap pvC ++ (vs.drop (i + 1)).flatMap pvC = (vs.eraseIdx i).flatMap pvC := by rw [List.eraseIdx_eq_take_drop_succ, List.flatMap_append]
  obtain ⟨b, off, rfl, _⟩ := ht.1.2.2 (by omega)
  obtain ⟨A', hA', hif⟩ := dropK_if b off c (i + 1)
  have htk := trd_take ht (Nat.le_of_lt hi)
  have htd := trd_drop (i := i + 1) ht (by omega) hnc
  rw [hA'] at htd
  have Htk := Lib.hid htk
  have Htd := Lib.hid htd
  have HW1 := Lib.hid hw1
  have HW2 := Lib.hid hw2
  have HB1 := Lib.hid hb1
  have HB2 := Lib.hid hb2
  have HN1 := Lib.hid hN1
  have HX1 := Lib.hid hX1
  have Ha2 := Lib.hid ha2
  have Hp := Lib.hid hp
  have Hsl := Lib.hid hsl
  have c1 : w2.cell? ⟨w.heap.size, 0, none⟩ = some (.slice (some ⟨b, off, none⟩) n c) := ((hX1.below hb2 (by omega)).cell 0).trans rfl
  have hs2 : w.heap.size + 1 + 1 ≤ w2.heap.size := by have := hb2.size; omega
  clear ht hp hw1 hw2 hb1 hb2 hN1 hX1 ha2 htk htd hA' hsl
  unfold netV
  go_enter Try.func32, Try.ntmps32
  go_upto_region 1 with fail
  rw [← HW1.out]
  have c0 : w1.cell? ⟨w.heap.size, 0, none⟩ = some (.slice (some ⟨b, off, none⟩) n c) := (HX1.out.cell 0).trans rfl
  go_upto_region 2 with (at_builtin; rw [← HW2.out]; refine wpList_appz rfl (.tmp 6) (.tmp 10) 28 rfl 39 i39 _ 7 120 Try.underlying28 hi39 hz39 hs39 hy39 rfl (by omega) (w.heap.size + 1 + 1) hs2 _ _ _ rfl Ha2.out (some ⟨b, off, none⟩) i c ((vs.take i).flatMap pvC) rfl ((Htk.out.1.below HB1.out).below HB2.out) (pvs_one _) (by unfold maxLen; omega) (by omega) ?_; intro v' w3 ha3 hg3; obtain ⟨A3, k3, rfl, hk3, _⟩ := ha3.rd)
  have hb3 : Below (w.heap.size + 1 + 1) w1 w3 := (by have := HB2.out; rw [hsz1] at this; exact this : Below (w.heap.size + 1 + 1) w1 w2).trans ((Below.refl (w.heap.size + 1 + 1) w2).grown hg3 hs2 (fun g e => (Ha2.out.lt g e).1))
  have hs3 : w.heap.size + 1 + 1 ≤ w3.heap.size := by have := hb3.size; omega
  have c3 : w3.cell? ⟨w.heap.size, 0, none⟩ = some (.slice (some ⟨b, off, none⟩) n c) := ((HX1.out.below hb3 (by omega)).cell 0).trans rfl
  rw [Nat.zero_add] at ha3 hk3
  rw [List.nil_append] at ha3
  have Ha3 := Lib.hid ha3
  have Hb3 := Lib.hid hb3
  clear ha3 hg3 hb3 c0 c1
  go_wp2_with (at_builtin; refine wpList_appz rfl (.tmp 12) (.tmp 17) 28 rfl 39 i39 _ 7 120 Try.underlying28 hi39 hz39 hs39 hy39 rfl (by omega) (w.heap.size + 1 + 1) hs3 _ _ _ rfl Ha3.out A' (n - (i + 1)) (c - (i + 1)) ((vs.drop (i + 1)).flatMap pvC) rfl ((Htd.out.1.below HB1.out).below (Hb3.out.mono (by omega))) (pvs_one _) (by unfold maxLen; omega) (by omega) ?_; intro v' w4 ha4 hg4; obtain ⟨A4, k4, rfl, hk4, ht4⟩ := ha4.trd7; have Hf4 := Lib.hid (show ∀ b off, A4 = some ⟨b, off, none⟩ → w.heap.size ≤ b from fun b off e => (by have := (ha4.lt b (by rw [e]; rfl)).1; omega)); have hb4 : Below (w.heap.size + 1 + 1) w1 w4 := Hb3.out.trans ((Below.refl (w.heap.size + 1 + 1) w3).grown hg4 hs3 (fun g e => (Ha3.out.lt g e).1)); have hN4 := HN1.out.below hb4 (by omega); have c4 : w4.cell? ⟨w.heap.size + 1, 0, none⟩ = some (.slice none 0 0) := (hN4.cell 0).trans rfl; have z4 := hN4.frozen 0; have Ht4 := Lib.hid ht4; have HB4 := Lib.hid hb4; have HN4 := Lib.hid hN4; clear ha4 hg4 ht4 hb4 hN4)
  have hp4 := ((Hp.out.below HB1.out).below (HB4.out.mono (by omega))).erase i
  have ht4 := Ht4.out
  rw [Hsl.out, show i + (n - (i + 1)) = n - 1 by omega] at ht4
  obtain ⟨hN5, hR5⟩ := pks_store (c := k4) (HB1.out.trans (HB4.out.mono (by omega))) (Nat.le_succ _) HN4.out ht4 hp4 (by omega) Hf4.out
  rw [show i + (n - (i + 1)) = n - 1 by omega]
  obtain ⟨d30, hd30, hrow30⟩ := und30
  exact bodyPost_ret (results_cell_row rfl _ _ (w.heap.size + 1) 30 _ (0, 0) _ rfl hN5 hd30 (by cases d30 <;> first | rfl | (cases hrow30)) (size30 _ rfl)) rfl hR5
end Go.Proofs.Yteofgkdpknaapaa
