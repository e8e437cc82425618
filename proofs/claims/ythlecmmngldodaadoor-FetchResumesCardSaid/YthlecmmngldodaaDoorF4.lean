/- Package fetch and its reference: New begins. -/
import Derived.Test.YthlecmmngldodaaDoorF3
namespace Go.Proofs.YthlecmmngldodaaDoor
open Go.RowKit Go.Sort

theorem lst_empty {w : World} {g k : Nat} {t : TypeId} (h : Blk w g t (List.replicate k (Value.slice none 0 0)).toArray) (hk : k ≤ 9223372036854775807) : Lst w (some ⟨g, 0, none⟩) k (List.replicate k []) := by
  refine ⟨List.replicate k ⟨none, 0, 0⟩, ?_, by simp, fun j v c hv hc => ?_⟩
  · have := Blk.rd (xs := List.replicate k (Value.slice none 0 0)) h (by simpa using hk)
    rw [List.length_replicate] at this
    rw [List.map_replicate]
    exact this
  · rw [List.getElem?_replicate] at hv hc
    split at hv
    · rename_i hj
      rw [if_pos hj] at hc
      cases hv; cases hc
      exact ⟨Rd.nil _ _ _, Nat.le_refl _⟩
    · cases hv
theorem made_one (v : Value) (k : Nat) : madeCells #[v] k = (List.replicate k v).toArray := by
  apply Array.ext
  · simp [madeCells]
  · intro j h1 h2
    simp [madeCells, Nat.mod_one]
theorem mkHave (w : World) (k : Nat) (hk : k ≤ 256) : (Instr.makeSlice 27 (.int .i64 (k : Int)) (.int .i64 (k : Int))).run Tryd.prog w = .ok (.slice (some ⟨w.heap.size, 0, none⟩) k k) (w.alloc (.cells (List.replicate k (.slice none 0 0)).toArray 22)) := by
  obtain ⟨i0, hi0, hz0, hz1, hz2⟩ := info_parts info22
  rw [run_makeSlice w 27 22 i0 (.slice none 0 0) Tryd.underlying27 hi0 hz0 .i64 .i64 (k : Int) (k : Int) (by omega) (Int.le_refl _) (by rw [hz1]; omega) (by rw [hz2]; omega) (by omega)]
  rw [Int.toNat_natCast, hz1, Nat.mul_one]
  rw [show (Value.slice none 0 0).cells = #[Value.slice none 0 0] from rfl, made_one]
section
variable {P : Program} {ops : Array Oper} {Q : Exit → Act → World → Prop} {o : Oper} {a : Act} {w : World} {K : Act → World → Prop} {E : Prop}
/-- A row is built of two parts. -/
theorem step_build2 (hg : o.guard = none) (t : TypeId) (i j : Nat) (x y : Operand) (ho : o.op = .build t #[(i, x), (j, y)]) (vx vy : Value) (hx : a.eval x = vx) (hy : a.eval y = vy) (Z : Array Value) (hZ : P.built t [(i, vx), (j, vy)] = some Z)
    (h : K (a.put o.dst (.agg Z)) w) : if Region.wanted o (yielded ops a.tmps) = true then Oper.wp P o a w K Q else E := by
  have hw : Region.wanted o (yielded ops a.tmps) = true := by simp [Region.wanted, hg]
  rw [if_pos hw]
  unfold Oper.wp execOp
  simp only [ho, Sem.run_bind]
  rw [show (Array.map (fun (x : Nat × Operand) => (x.fst, a.eval x.snd)) #[(i, x), (j, y)]) = #[(i, vx), (j, vy)] from by simp [hx, hy], run_build w t _ Z hZ]
  exact h
end

set_option maxRecDepth 100000 in
set_option maxHeartbeats 1000000 in
theorem New_typed (R : List Value) (k : Nat) (tr : Sum32) (hk : R[36]? = some (.int .i64 (k : Int))) (ht : ∀ j v, (sumC tr)[j]? = some v → R[37 + j]? = some v) (h1 : 1 ≤ k) (h2 : k ≤ 256) (w : World) :
    Calls Tryd.prog 16 #[.agg R.toArray] w fun e w' => ∃ g, e = .returned (.tuple #[.agg (fetchC tr (some ⟨g, 0, none⟩) k k).toArray, .int .i64 0]) ∧ Blk w' g 22 (List.replicate k (Value.slice none 0 0)).toArray ∧ Below w.heap.size w w' := by
  obtain ⟨i35, hi35, hz35, hs35, hy35⟩ := info_parts info35
  have hB : Below w.heap.size w ((w.alloc (.cells R.toArray 41)).alloc (.cells (fetchC z32 none 0 0).toArray 35)) := ((Below.refl _ _).alloc (Nat.le_refl _) _).alloc (by simp) _
  have hR : Blk ((w.alloc (.cells R.toArray 41)).alloc (.cells (fetchC z32 none 0 0).toArray 35)) w.heap.size 41 R.toArray := (Blk.new _ _ _).alloc _
  have hZ : Blk ((w.alloc (.cells R.toArray 41)).alloc (.cells (fetchC z32 none 0 0).toArray 35)) (w.heap.size + 1) 35 (fetchC z32 none 0 0).toArray := by
    have := Blk.new (w.alloc (.cells R.toArray 41)) 35 (fetchC z32 none 0 0).toArray
    rwa [World.size_alloc] at this
  go_enter Tryd.func16, Tryd.ntmps16
  go_upto_region 1 with (refine wpList_alloc0 rfl 35 rfl (fetchC z32 none 0 0).toArray _ i35 hi35 hz35 rfl ?_; simp only [Act.put, List.setIfInBounds_toArray, List.set_cons_succ, List.set_cons_zero, World.size_alloc])
  obtain ⟨w1, hw1⟩ : ∃ w1, w1 = (w.alloc (.cells R.toArray 41)).alloc (.cells (fetchC z32 none 0 0).toArray 35) := ⟨_, rfl⟩
  rw [← hw1] at hB hR hZ ⊢
  clear hw1
  have c1 : w1.cell? ⟨w.heap.size, 36, none⟩ = some (.int .i64 (k : Int)) := by rw [hR.cell]; rw [List.getElem?_toArray]; exact hk
  have hrg : ∀ w', Ext w1 w' → w'.rangeAt w.heap.size 37 (sumC tr) := fun w' hw' j v hv => by
    rw [(hR.below (ext_below hw') hR.lt).cell, List.getElem?_toArray]; exact ht j v hv
  have c1r := cell_regrown c1
  have HB := Lib.hid hB
  have HZ := Lib.hid hZ
  have Hrg := Lib.hid hrg
  have hz := hZ.lt
  have hnb : ¬ (k : Int) < 1 := by omega
  have hnb2 : ¬ (256 : Int) < (k : Int) := by omega
  clear hB hR hZ hk ht hrg
  go_upto_region 3 with fail
  clear c1
  refine wp_region_reads_tail 6 [0, 1, 2, 3] 2 (by kernel_rfl) (List.take_append_drop _ _) rfl (by kernel_rfl) (by kernel_rfl) (by kernel_rfl) (by decide) (by kernel_rfl) (by kernel_rfl) (fun _ _ d _ _ h => by cases d <;> exact h) (by kernel_rfl) (by kernel_rfl) rfl ?_
  simp only [List.take_succ_cons, List.take_zero, List.drop_succ_cons, List.drop_zero, pickOps, List.getElem?_cons_zero, List.getElem?_cons_succ]
  repeat (first | go_big_quiet_step (fail) | (refine wpQuiet_load_mid rfl 33 _ rfl w.heap.size 37 rfl (sumC tr) _ Hrg.out und32 rfl (by rw [sumC_len]; kernel_rfl) ?_; simp only [Act.put, List.setIfInBounds_toArray, List.set_cons_succ, List.set_cons_zero]))
  refine wpQuiet_nil ?_
  refine wpAnyH_one (i := 4) (by kernel_rfl) rfl ?_
  intro K hK
  have hmk := mkHave w1.drew k h2
  go_simp
  have hba : Below w1.heap.size w1 (w1.alloc (.cells (Array.replicate k (Value.slice none 0 0)) 22)).drew := ((Below.refl _ w1).alloc (Nat.le_refl _) _).drew
  refine hK _ _ (ext_of hba) ?_
  clear hK K hmk
  refine wpAnyH_one (i := 5) (by kernel_rfl) rfl ?_
  intro K hK
  refine step_build2 rfl 35 0 1 (.tmp 14) (.tmp 17) rfl (.agg (sumC tr).toArray) (.slice (some ⟨w1.heap.size, 0, none⟩) k k) rfl rfl _ (built35 tr (some ⟨w1.heap.size, 0, none⟩) k k) ?_
  refine hK _ _ (ext_of hba) ?_
  clear hK K
  refine wpAnyH_done (by kernel_rfl) ?_ _
  simp only [Exit.then]
  have hZ2 := HZ.out.below hba hz
  have hN : Blk (w1.alloc (.cells (Array.replicate k (Value.slice none 0 0)) 22)).drew w1.heap.size 22 (List.replicate k (Value.slice none 0 0)).toArray := by rw [List.toArray_replicate]; exact (Blk.new w1 _ _).drew
  have HZ2 := Lib.hid hZ2
  have HN := Lib.hid hN
  have HB2 := Lib.hid (HB.out.trans (hba.mono HB.out.size))
  clear hZ2 hN hba
  generalize (w1.alloc (.cells (Array.replicate k (Value.slice none 0 0)) 22)).drew = w2 at *
  refine wpList_store_row rfl 35 (.tmp 2) (.tmp 18) rfl (w.heap.size + 1) (fetchC tr (some ⟨w1.heap.size, 0, none⟩) k k).toArray rfl rfl 35 (fetchC z32 none 0 0).toArray HZ2.out (size35 _ (by simp [fetchC_len])) (by simp [fetchC_len]) (fetch_one _ _ _ _) ?_
  go_wp2_with fail
  refine bodyPost_ret (results_row_tmp rfl _ _ (w.heap.size + 1) 35 (fetchC tr (some ⟨w1.heap.size, 0, none⟩) k k).toArray (0, 0) _ rfl (setRow_heap _ _ _ _ _ _ HZ2.out) und35.choose_spec.1 und35.choose_spec.2 (size35 _ (by simp [fetchC_len]))) rfl ⟨_, rfl, ?_, Below.setRow HB2.out (by omega) _⟩
  have hN3 : Blk (w2.setRow (w.heap.size + 1) (fetchC tr (some ⟨w1.heap.size, 0, none⟩) k k).toArray) w1.heap.size 22 (List.replicate k (Value.slice none 0 0)).toArray := (setRow_other _ _ _ _ (by omega)).trans HN.out
  exact hN3
theorem New_any (R : List Value) (k : Nat) (tr : Sum32) (hk : R[36]? = some (.int .i64 (k : Int))) (ht : ∀ j v, (sumC tr)[j]? = some v → R[37 + j]? = some v) (h1 : 1 ≤ k) (h2 : k ≤ 256) (w : World) :
    Calls Tryd.prog 16 #[.agg R.toArray] w fun e w' => ∃ A', e = .returned (.tuple #[.agg (fetchC tr A' k k).toArray, .int .i64 0]) ∧ Lst w' A' k (List.replicate k []) ∧ Below w.heap.size w w' :=
  (New_typed R k tr hk ht h1 h2 w).mono fun _ _ ⟨g, he, hb, hl⟩ => ⟨_, he, lst_empty hb (by omega), hl⟩
set_option maxRecDepth 100000 in
set_option maxHeartbeats 1000000 in
theorem RNew_typed (R : List Value) (k : Nat) (tr : Sum32) (hk : R[36]? = some (.int .i64 (k : Int))) (ht : ∀ j v, (sumC tr)[j]? = some v → R[37 + j]? = some v) (h1 : 1 ≤ k) (h2 : k ≤ 256) (w : World) :
    Calls Tryd.prog 18 #[.agg R.toArray] w fun e w' => ∃ g, e = .returned (.tuple #[.agg (fetchC tr (some ⟨g, 0, none⟩) k k).toArray, .int .i64 0]) ∧ Blk w' g 22 (List.replicate k (Value.slice none 0 0)).toArray ∧ Below w.heap.size w w' := by
  obtain ⟨i35, hi35, hz35, hs35, hy35⟩ := info_parts info35
  have hB : Below w.heap.size w ((w.alloc (.cells R.toArray 41)).alloc (.cells (fetchC z32 none 0 0).toArray 35)) := ((Below.refl _ _).alloc (Nat.le_refl _) _).alloc (by simp) _
  have hR : Blk ((w.alloc (.cells R.toArray 41)).alloc (.cells (fetchC z32 none 0 0).toArray 35)) w.heap.size 41 R.toArray := (Blk.new _ _ _).alloc _
  have hZ : Blk ((w.alloc (.cells R.toArray 41)).alloc (.cells (fetchC z32 none 0 0).toArray 35)) (w.heap.size + 1) 35 (fetchC z32 none 0 0).toArray := by
    have := Blk.new (w.alloc (.cells R.toArray 41)) 35 (fetchC z32 none 0 0).toArray
    rwa [World.size_alloc] at this
  go_enter Tryd.func18, Tryd.ntmps18
  go_upto_region 1 with (refine wpList_alloc0 rfl 35 rfl (fetchC z32 none 0 0).toArray _ i35 hi35 hz35 rfl ?_; simp only [Act.put, List.setIfInBounds_toArray, List.set_cons_succ, List.set_cons_zero, World.size_alloc])
  obtain ⟨w1, hw1⟩ : ∃ w1, w1 = (w.alloc (.cells R.toArray 41)).alloc (.cells (fetchC z32 none 0 0).toArray 35) := ⟨_, rfl⟩
  rw [← hw1] at hB hR hZ ⊢
  clear hw1
  have c1 : w1.cell? ⟨w.heap.size, 36, none⟩ = some (.int .i64 (k : Int)) := by rw [hR.cell]; rw [List.getElem?_toArray]; exact hk
  have hrg : ∀ w', Ext w1 w' → w'.rangeAt w.heap.size 37 (sumC tr) := fun w' hw' j v hv => by
    rw [(hR.below (ext_below hw') hR.lt).cell, List.getElem?_toArray]; exact ht j v hv
  have c1r := cell_regrown c1
  have HB := Lib.hid hB
  have HZ := Lib.hid hZ
  have Hrg := Lib.hid hrg
  have hz := hZ.lt
  have hnb : ¬ (k : Int) < 1 := by omega
  have hnb2 : ¬ (256 : Int) < (k : Int) := by omega
  clear hB hR hZ hk ht hrg
  go_upto_region 3 with fail
  clear c1
  refine wp_region_reads_tail 6 [0, 1, 2, 3] 2 (by kernel_rfl) (List.take_append_drop _ _) rfl (by kernel_rfl) (by kernel_rfl) (by kernel_rfl) (by decide) (by kernel_rfl) (by kernel_rfl) (fun _ _ d _ _ h => by cases d <;> exact h) (by kernel_rfl) (by kernel_rfl) rfl ?_
  simp only [List.take_succ_cons, List.take_zero, List.drop_succ_cons, List.drop_zero, pickOps, List.getElem?_cons_zero, List.getElem?_cons_succ]
  repeat (first | go_big_quiet_step (fail) | (refine wpQuiet_load_mid rfl 33 _ rfl w.heap.size 37 rfl (sumC tr) _ Hrg.out und32 rfl (by rw [sumC_len]; kernel_rfl) ?_; simp only [Act.put, List.setIfInBounds_toArray, List.set_cons_succ, List.set_cons_zero]))
  refine wpQuiet_nil ?_
  refine wpAnyH_one (i := 4) (by kernel_rfl) rfl ?_
  intro K hK
  have hmk := mkHave w1.drew k h2
  go_simp
  have hba : Below w1.heap.size w1 (w1.alloc (.cells (Array.replicate k (Value.slice none 0 0)) 22)).drew := ((Below.refl _ w1).alloc (Nat.le_refl _) _).drew
  refine hK _ _ (ext_of hba) ?_
  clear hK K hmk
  refine wpAnyH_one (i := 5) (by kernel_rfl) rfl ?_
  intro K hK
  refine step_build2 rfl 35 0 1 (.tmp 14) (.tmp 17) rfl (.agg (sumC tr).toArray) (.slice (some ⟨w1.heap.size, 0, none⟩) k k) rfl rfl _ (built35 tr (some ⟨w1.heap.size, 0, none⟩) k k) ?_
  refine hK _ _ (ext_of hba) ?_
  clear hK K
  refine wpAnyH_done (by kernel_rfl) ?_ _
  simp only [Exit.then]
  have hZ2 := HZ.out.below hba hz
  have hN : Blk (w1.alloc (.cells (Array.replicate k (Value.slice none 0 0)) 22)).drew w1.heap.size 22 (List.replicate k (Value.slice none 0 0)).toArray := by rw [List.toArray_replicate]; exact (Blk.new w1 _ _).drew
  have HZ2 := Lib.hid hZ2
  have HN := Lib.hid hN
  have HB2 := Lib.hid (HB.out.trans (hba.mono HB.out.size))
  clear hZ2 hN hba
  generalize (w1.alloc (.cells (Array.replicate k (Value.slice none 0 0)) 22)).drew = w2 at *
  refine wpList_store_row rfl 35 (.tmp 2) (.tmp 18) rfl (w.heap.size + 1) (fetchC tr (some ⟨w1.heap.size, 0, none⟩) k k).toArray rfl rfl 35 (fetchC z32 none 0 0).toArray HZ2.out (size35 _ (by simp [fetchC_len])) (by simp [fetchC_len]) (fetch_one _ _ _ _) ?_
  go_wp2_with fail
  refine bodyPost_ret (results_row_tmp rfl _ _ (w.heap.size + 1) 35 (fetchC tr (some ⟨w1.heap.size, 0, none⟩) k k).toArray (0, 0) _ rfl (setRow_heap _ _ _ _ _ _ HZ2.out) und35.choose_spec.1 und35.choose_spec.2 (size35 _ (by simp [fetchC_len]))) rfl ⟨_, rfl, ?_, Below.setRow HB2.out (by omega) _⟩
  have hN3 : Blk (w2.setRow (w.heap.size + 1) (fetchC tr (some ⟨w1.heap.size, 0, none⟩) k k).toArray) w1.heap.size 22 (List.replicate k (Value.slice none 0 0)).toArray := (setRow_other _ _ _ _ (by omega)).trans HN.out
  exact hN3
theorem RNew_any (R : List Value) (k : Nat) (tr : Sum32) (hk : R[36]? = some (.int .i64 (k : Int))) (ht : ∀ j v, (sumC tr)[j]? = some v → R[37 + j]? = some v) (h1 : 1 ≤ k) (h2 : k ≤ 256) (w : World) :
    Calls Tryd.prog 18 #[.agg R.toArray] w fun e w' => ∃ A', e = .returned (.tuple #[.agg (fetchC tr A' k k).toArray, .int .i64 0]) ∧ Lst w' A' k (List.replicate k []) ∧ Below w.heap.size w w' :=
  (RNew_typed R k tr hk ht h1 h2 w).mono fun _ _ ⟨g, he, hb, hl⟩ => ⟨_, he, lst_empty hb (by omega), hl⟩
end Go.Proofs.YthlecmmngldodaaDoor
