/- Package net: Send. -/
import Derived.Test.YteofgkdpknaapaaN18
namespace Go.Proofs.Yteofgkdpknaapaa
open Go.RowKit Go.Sort

/-- A slice of two slices of packets. -/
theorem val_two7 {Q : Exit → Act → World → Prop} {o : Oper} {a : Act} {W : World} {R : Value → World → Prop} (x y : Operand) (ho : o.op = .buildSlice 106 2 #[(0, x), (1, y)]) (A B : Option Addr) (n c m d : Nat) (hx : a.eval x = .slice A n c) (hy : a.eval y = .slice B m d)
    (h : R (.slice (some ⟨W.heap.size, 0, none⟩) 2 2) (W.alloc (.cells #[.slice A n c, .slice B m d] 28))) : Val Try.prog Q o a W (fun v W' => Below W.heap.size W W' ∧ R v W') := by
  intro K hK
  unfold Oper.wp execOp
  simp only [ho, List.map_toArray, List.map_cons, List.map_nil, hx, hy]
  simp [go_sem]
  exact hK _ _ ⟨(Below.refl _ _).alloc (Nat.le_refl _) _, h⟩
theorem built30 (A : Option Addr) (n c : Nat) : Try.prog.built 30 [(0, .slice A n c)] = some #[.slice A n c] := by kernel_rfl
set_option maxRecDepth 100000 in
set_option maxHeartbeats 1000000 in
theorem Send_any (A : Option Addr) (n c : Nat) (ps : List Pk) (B : Option Addr) (m d : Nat) (qs : List Pk) (w : World) (h1 : PksAt w A n ps) (h2 : PksAt w B m qs) (hn : n ≤ 64) (hm : m ≤ 10000) (hmd : m ≤ d) :
    Calls Try.prog 20 #[netV A n c, .slice B m d] w (PksR (n + min m (64 - n)) (ps ++ qs.take (64 - n)) w) := by
  obtain ⟨vs, ht, hp⟩ := h1
  obtain ⟨us, hu, hq⟩ := h2
  obtain ⟨w1, hw1⟩ : ∃ q, q = (w.alloc (.cells #[.slice A n c] 30)).alloc (.cells #[.slice none 0 0] 30) := ⟨_, rfl⟩
  have hb1 : Below w.heap.size w w1 := by rw [hw1]; exact ((Below.refl _ _).alloc (Nat.le_refl _) _).alloc (by rw [World.size_alloc]; omega) _
  have hsz1 : w1.heap.size = w.heap.size + 1 + 1 := by rw [hw1, World.size_alloc, World.size_alloc]
  have hN1 : Blk w1 (w.heap.size + 1) 30 #[.slice none 0 0] := by
    rw [hw1]
    have h := Blk.new (w.alloc (.cells #[.slice A n c] 30)) 30 #[.slice none 0 0]
    rwa [World.size_alloc] at h
  have hX1 : Blk w1 w.heap.size 30 #[.slice A n c] := by
    rw [hw1]
    exact (Blk.new w 30 #[.slice A n c]).alloc _
  obtain ⟨r, hr⟩ : ∃ r, r = min m (64 - n) := ⟨_, rfl⟩
  have hrm : r ≤ m := by omega
  have hmin : (if 64 - (n : Int) < (m : Int) then 64 - (n : Int) else (m : Int)) = (r : Int) := by split <;> omega
  have htk := trd_take hu hrm
  have hqr : qs.take r = qs.take (64 - n) := by
    have hl := PksAt.len ⟨us, hu, hq⟩
    rw [hr]
    rcases Nat.le_total m (64 - n) with h | h
    · rw [Nat.min_eq_left h, List.take_of_length_le (by omega), List.take_of_length_le (by omega)]
    · rw [Nat.min_eq_right h]
  rw [← hr, ← hqr]
  have Htk := Lib.hid htk
  have Ht := Lib.hid ht
  have Hp := Lib.hid hp
  have Hq := Lib.hid (hq.take r)
  have HW1 := Lib.hid hw1
  have HB1 := Lib.hid hb1
  have HN1 := Lib.hid hN1
  have HX1 := Lib.hid hX1
  have c0 : w1.cell? ⟨w.heap.size, 0, none⟩ = some (.slice A n c) := (hX1.cell 0).trans rfl
  clear ht hp hu hq htk hw1 hb1 hN1 hX1 hqr hr
  unfold netV
  go_enter Try.func20, Try.ntmps20
  go_upto_region 1 with fail
  rw [← HW1.out]
  go_upto_region 2 with fail
  have hslr := run_pk_h B m d r (by omega)
  obtain ⟨SS, hSS⟩ : ∃ SS : World → Prop, SS = fun W => Below w1.heap.size w1 W := ⟨_, rfl⟩
  have hst : SS w1.drew := by rw [hSS]; exact (Below.refl w1.heap.size w1).drew
  have hcell : ∀ W, SS W → W.cell? ⟨w.heap.size, 0, none⟩ = some (.slice A n c) := fun W hW => by
    rw [hSS] at hW
    exact ((HX1.out.below hW HX1.out.lt).cell 0).trans rfl
  have Hslr := Lib.hid hslr
  have hmax : (if (r : Int) < 0 then (0 : Int) else (r : Int)) = (r : Int) := by rw [if_neg (by omega)]
  clear hslr
  refine wp_region_reads_tailN (S := SS) 9 [0, 1, 2, 3, 4, 5] 3 (by kernel_rfl) (List.take_append_drop _ _) rfl (by kernel_rfl) (by kernel_rfl) (by kernel_rfl) (by decide) (by kernel_rfl) (by kernel_rfl) (fun _ _ d _ _ h => by cases d <;> exact h) (by kernel_rfl) (by kernel_rfl) rfl hst ?_
  refine wpQuiet_val rfl (.pointer (some ⟨w.heap.size, 0, none⟩)) (fun W hW => by first | rfl | simp [execOp, go_sem]) ?_
  simp only [Act.put, List.setIfInBounds_toArray, List.set_cons_succ, List.set_cons_zero]
  refine wpQuiet_val rfl (.slice A n c) (fun W hW => by have h0 := hcell W hW; first | rfl | simp [execOp, go_sem, h0]) ?_
  simp only [Act.put, List.setIfInBounds_toArray, List.set_cons_succ, List.set_cons_zero]
  refine wpQuiet_val rfl (.slice B m d) (fun W hW => by first | rfl | simp [execOp, go_sem]) ?_
  simp only [Act.put, List.setIfInBounds_toArray, List.set_cons_succ, List.set_cons_zero]
  refine wpQuiet_val rfl (.int .i64 (r : Int)) (fun W hW => by have h0 := hmin; first | rfl | simp [execOp, go_sem, h0]) ?_
  simp only [Act.put, List.setIfInBounds_toArray, List.set_cons_succ, List.set_cons_zero]
  refine wpQuiet_val rfl (.int .i64 (r : Int)) (fun W hW => by have h0 := hmax; first | rfl | simp [go_sem, h0]) ?_
  simp only [Act.put, List.setIfInBounds_toArray, List.set_cons_succ, List.set_cons_zero]
  refine wpQuiet_val rfl (.slice B r d) (fun W hW => run_slice_op (.tmp 15) none (some (.tmp 17)) none rfl _ W (Hslr.out W)) ?_
  simp only [Act.put, List.setIfInBounds_toArray, List.set_cons_succ, List.set_cons_zero]
  refine wpQuiet_nil ?_
  refine wpAnyH_val (i := 6) (by kernel_rfl) (by rfl) (by rfl) ?_
  refine valB (fun W' hb => by rw [hSS] at hst ⊢; exact hst.trans hb) ?_
  refine val_two7 (.tmp 14) (.tmp 18) rfl A B n c r d rfl rfl ?_
  obtain ⟨w3, hw3⟩ : ∃ q, q = w1.drew.alloc (.cells #[.slice A n c, .slice B r d] 28) := ⟨_, rfl⟩
  have hb3 : Below w1.heap.size w1 w3 := by rw [hw3]; exact ((Below.refl w1.heap.size w1).drew).alloc (Nat.le_refl _) _
  have hX3 : Blk w3 w1.heap.size 28 #[.slice A n c, .slice B r d] := by rw [hw3]; exact Blk.new _ _ _
  rw [← hw3]
  have hx0 : w3.cell? ⟨w1.heap.size, 0, none⟩ = some (.slice A n c) := (hX3.cell 0).trans rfl
  have hx1 : w3.cell? ⟨w1.heap.size, 0 + 1, none⟩ = some (.slice B r d) := (hX3.cell 1).trans rfl
  simp only [Act.put, List.setIfInBounds_toArray, List.set_cons_succ, List.set_cons_zero]
  refine wpAnyH_val (i := 7) (by kernel_rfl) (by rfl) (by rfl) ?_
  refine val_callp 36 _ _ rfl (by kernel_rfl) [.slice (some ⟨w1.heap.size, 0, none⟩) 2 2] rfl ((PConcat_any w1.heap.size 0 A n c vs B r d (us.take r) w3 hx0 hx1 ((Ht.out.below HB1.out).1.below hb3) ((Htk.out.below HB1.out).1.below hb3) (by omega) (by omega) hX3.lt).mono ?_)
  rintro e w4 ⟨v4, rfl, ha4, hb4⟩
  left
  have hb4' : Below w1.heap.size w1 w4 := hb3.trans (hb4.mono hb3.size)
  obtain ⟨A4, c4, rfl, hc4, ht4⟩ := ha4.trd7
  refine ⟨_, rfl, by rw [hSS]; exact hb4', ?_⟩
  simp only [Act.put, List.setIfInBounds_toArray, List.set_cons_succ, List.set_cons_zero]
  refine wpAnyH_val (i := 8) (by kernel_rfl) (by rfl) (by rfl) ?_
  refine valB (fun W' hb => by rw [hSS]; exact hb4'.trans (hb.mono hb4'.size)) ?_
  refine val_run (.agg #[.slice A4 (n + r) c4]) (run_build_op 30 _ rfl [(0, .slice A4 (n + r) c4)] rfl _ (built30 _ _ _) w4) ?_
  simp only [Act.put, List.setIfInBounds_toArray, List.set_cons_succ, List.set_cons_zero]
  refine wpAnyH_done (by kernel_rfl) ?_
  have hN4 := HN1.out.below hb4' HN1.out.lt
  have c4' : w4.cell? ⟨w.heap.size + 1, 0, none⟩ = some (.slice none 0 0) := (hN4.cell 0).trans rfl
  have z4 := hN4.frozen 0
  have hp4 := ((Hp.out.below HB1.out).app (Hq.out.below HB1.out)).below hb4'
  have Hend := Lib.hid (pks_store (c := c4) (HB1.out.trans (hb4'.mono HB1.out.size)) (Nat.le_succ _) hN4 ht4 hp4 hc4 (fun b off e => by have := (ha4.lt b (by rw [e]; rfl)).1; have := hb3.size; have := HB1.out.size; omega))
  clear hN4 hp4 ht4 ha4 hb4 hb4' hx0 hx1 hX3 hb3 hw3 hcell hst hSS
  go_wp2_with fail
  obtain ⟨hN5, hR5⟩ := Hend.out
  obtain ⟨d30, hd30, hrow30⟩ := und30
  exact bodyPost_ret (results_cell_row rfl _ _ (w.heap.size + 1) 30 _ (0, 0) _ rfl hN5 hd30 (by cases d30 <;> first | rfl | (cases hrow30)) (size30 _ rfl)) rfl hR5
end Go.Proofs.Yteofgkdpknaapaa
