/- Package fetch and its reference: New. -/
import Derived.Test.YthlecmmngldodaaDoorF2
import Derived.Laws.MakeOwn
namespace Go.Proofs.YthlecmmngldodaaDoor
open Go.RowKit Go.Sort

theorem results_row_tmp {P : Program} {fn : Func} {p u : Tmp} {ty : TypeId} (h : fn.results = #[.cell p ty, .tmp u]) (tmps : Array Value) (w : World) (g : Nat) (t : TypeId) (cs : Array Value) (fr : Nat × Nat) (d : TypeDesc)
    (hp : tmps.getD p undef = .pointer (some ⟨g, 0, none⟩)) (hg : w.heap[g]? = some (.cells cs t fr))
    (hu : P.underlying ty = some d) (hd : d.isRow = true) (hi : (P.info? ty).map (·.size) = some cs.size) :
    (results fn tmps).run P w = .ok (.tuple #[.agg cs, tmps.getD u undef]) w := by
  rw [results_cell_tmp h, hp]
  simp [asAddr, run_loadVar_row w g t ty cs fr d hg hu (by cases d <;> first | rfl | exact hd) hi]
theorem info35 : (Tryd.prog.info? 35).map (fun i => (i.zero, i.size, i.bytes)) = some (some (.agg (fetchC z32 none 0 0).toArray), 33, 56) := by kernel_rfl
theorem built35z : Tryd.prog.built 35 [] = some (fetchC z32 none 0 0).toArray := by kernel_rfl
theorem size35 (cs : Array Value) (h : cs.size = 33) : (Tryd.prog.info? 35).map (·.size) = some cs.size := by rw [h]; kernel_rfl
theorem und35b : (Tryd.prog.underlying 35).map (·.isRow) = some true := by kernel_rfl
theorem und35 : ∃ d, Tryd.prog.underlying 35 = some d ∧ d.isRow = true := by
  obtain ⟨d, h1, h2⟩ := Option.map_eq_some_iff.1 und35b
  exact ⟨d, h1, h2⟩
theorem fetch_one (tr : Sum32) (A : Option Addr) (n c : Nat) : (fetchC tr A n c).toArray.all (·.oneCell') = true := all_oneCell_toArray fun v hv => by
  rcases List.mem_append.1 hv with h | h
  · exact oneB _ v h
  · simp at h; subst h; rfl
set_option maxRecDepth 100000 in
theorem built35 (tr : Sum32) (A : Option Addr) (n c : Nat) : Tryd.prog.built 35 [(0, .agg (sumC tr).toArray), (1, .slice A n c)] = some (fetchC tr A n c).toArray := by
  obtain ⟨l, hl⟩ := tr
  rcases l with _ | ⟨b0, l⟩
  · simp at hl
  rcases l with _ | ⟨b1, l⟩
  · simp at hl
  rcases l with _ | ⟨b2, l⟩
  · simp at hl
  rcases l with _ | ⟨b3, l⟩
  · simp at hl
  rcases l with _ | ⟨b4, l⟩
  · simp at hl
  rcases l with _ | ⟨b5, l⟩
  · simp at hl
  rcases l with _ | ⟨b6, l⟩
  · simp at hl
  rcases l with _ | ⟨b7, l⟩
  · simp at hl
  rcases l with _ | ⟨b8, l⟩
  · simp at hl
  rcases l with _ | ⟨b9, l⟩
  · simp at hl
  rcases l with _ | ⟨b10, l⟩
  · simp at hl
  rcases l with _ | ⟨b11, l⟩
  · simp at hl
  rcases l with _ | ⟨b12, l⟩
  · simp at hl
  rcases l with _ | ⟨b13, l⟩
  · simp at hl
  rcases l with _ | ⟨b14, l⟩
  · simp at hl
  rcases l with _ | ⟨b15, l⟩
  · simp at hl
  rcases l with _ | ⟨b16, l⟩
  · simp at hl
  rcases l with _ | ⟨b17, l⟩
  · simp at hl
  rcases l with _ | ⟨b18, l⟩
  · simp at hl
  rcases l with _ | ⟨b19, l⟩
  · simp at hl
  rcases l with _ | ⟨b20, l⟩
  · simp at hl
  rcases l with _ | ⟨b21, l⟩
  · simp at hl
  rcases l with _ | ⟨b22, l⟩
  · simp at hl
  rcases l with _ | ⟨b23, l⟩
  · simp at hl
  rcases l with _ | ⟨b24, l⟩
  · simp at hl
  rcases l with _ | ⟨b25, l⟩
  · simp at hl
  rcases l with _ | ⟨b26, l⟩
  · simp at hl
  rcases l with _ | ⟨b27, l⟩
  · simp at hl
  rcases l with _ | ⟨b28, l⟩
  · simp at hl
  rcases l with _ | ⟨b29, l⟩
  · simp at hl
  rcases l with _ | ⟨b30, l⟩
  · simp at hl
  rcases l with _ | ⟨b31, l⟩
  · simp at hl
  rcases l with _ | ⟨b32, l⟩
  · kernel_rfl
  · simp at hl

set_option maxRecDepth 100000 in
set_option maxHeartbeats 1000000 in
theorem New_bad (R : List Value) (k : Int) (hk : R[36]? = some (.int .i64 k)) (hbad : k < 1 ∨ 256 < k) (w : World) :
    Calls Tryd.prog 16 #[.agg R.toArray] w fun e w' => e = .returned (.tuple #[.agg (fetchC z32 none 0 0).toArray, .int .i64 280]) ∧ Below w.heap.size w w' := by
  obtain ⟨i35, hi35, hz35, hs35, hy35⟩ := info_parts info35
  have hB : Below w.heap.size w ((w.alloc (.cells R.toArray 41)).alloc (.cells (fetchC z32 none 0 0).toArray 35)) := ((Below.refl _ _).alloc (Nat.le_refl _) _).alloc (by simp) _
  have hR : Blk ((w.alloc (.cells R.toArray 41)).alloc (.cells (fetchC z32 none 0 0).toArray 35)) w.heap.size 41 R.toArray := (Blk.new _ _ _).alloc _
  have hZ : Blk ((w.alloc (.cells R.toArray 41)).alloc (.cells (fetchC z32 none 0 0).toArray 35)) (w.heap.size + 1) 35 (fetchC z32 none 0 0).toArray := by
    have := Blk.new (w.alloc (.cells R.toArray 41)) 35 (fetchC z32 none 0 0).toArray
    rwa [World.size_alloc] at this
  go_enter Tryd.func16, Tryd.ntmps16
  go_upto_region 1 with (refine wpList_alloc0 rfl 35 rfl (fetchC z32 none 0 0).toArray _ i35 hi35 hz35 rfl ?_; simp only [Act.put, List.setIfInBounds_toArray, List.set_cons_succ, List.set_cons_zero, World.size_alloc])
  obtain ⟨w1, hw1⟩ : ∃ w1, w1 = (w.alloc (.cells R.toArray 41)).alloc (.cells (fetchC z32 none 0 0).toArray 35) := ⟨_, rfl⟩
  rw [← hw1] at hB hR hZ ⊢
  clear hw1
  have c1 : w1.cell? ⟨w.heap.size, 36, none⟩ = some (.int .i64 k) := by rw [hR.cell]; rw [List.getElem?_toArray]; exact hk
  have HB := Lib.hid hB
  have HZ := Lib.hid hZ
  clear hB hR hZ hk
  by_cases h1 : k < 1
  · go_wp2_with (first | (refine wpList_build0 rfl 35 rfl _ built35z ?_) | (refine wpList_store_row rfl 35 (.tmp 2) (.tmp 12) rfl (w.heap.size + 1) (fetchC z32 none 0 0).toArray rfl rfl 35 (fetchC z32 none 0 0).toArray HZ.out (size35 _ (by simp [fetchC_len])) rfl (fetch_one _ _ _ _) ?_))
    refine bodyPost_ret (results_row_tmp rfl _ _ (w.heap.size + 1) 35 (fetchC z32 none 0 0).toArray (0, 0) _ rfl (setRow_heap _ _ _ _ _ _ HZ.out) und35.choose_spec.1 und35.choose_spec.2 (size35 _ (by simp [fetchC_len]))) rfl ⟨rfl, Below.setRow HB.out (by omega) _⟩
  · have h2 : 256 < k := by omega
    go_wp2_with (first | (refine wpList_build0 rfl 35 rfl _ built35z ?_) | (refine wpList_store_row rfl 35 (.tmp 2) (.tmp 12) rfl (w.heap.size + 1) (fetchC z32 none 0 0).toArray rfl rfl 35 (fetchC z32 none 0 0).toArray HZ.out (size35 _ (by simp [fetchC_len])) rfl (fetch_one _ _ _ _) ?_))
    refine bodyPost_ret (results_row_tmp rfl _ _ (w.heap.size + 1) 35 (fetchC z32 none 0 0).toArray (0, 0) _ rfl (setRow_heap _ _ _ _ _ _ HZ.out) und35.choose_spec.1 und35.choose_spec.2 (size35 _ (by simp [fetchC_len]))) rfl ⟨rfl, Below.setRow HB.out (by omega) _⟩
set_option maxRecDepth 100000 in
set_option maxHeartbeats 1000000 in
theorem RNew_bad (R : List Value) (k : Int) (hk : R[36]? = some (.int .i64 k)) (hbad : k < 1 ∨ 256 < k) (w : World) :
    Calls Tryd.prog 18 #[.agg R.toArray] w fun e w' => e = .returned (.tuple #[.agg (fetchC z32 none 0 0).toArray, .int .i64 280]) ∧ Below w.heap.size w w' := by
  obtain ⟨i35, hi35, hz35, hs35, hy35⟩ := info_parts info35
  have hB : Below w.heap.size w ((w.alloc (.cells R.toArray 41)).alloc (.cells (fetchC z32 none 0 0).toArray 35)) := ((Below.refl _ _).alloc (Nat.le_refl _) _).alloc (by simp) _
  have hR : Blk ((w.alloc (.cells R.toArray 41)).alloc (.cells (fetchC z32 none 0 0).toArray 35)) w.heap.size 41 R.toArray := (Blk.new _ _ _).alloc _
  have hZ : Blk ((w.alloc (.cells R.toArray 41)).alloc (.cells (fetchC z32 none 0 0).toArray 35)) (w.heap.size + 1) 35 (fetchC z32 none 0 0).toArray := by
    have := Blk.new (w.alloc (.cells R.toArray 41)) 35 (fetchC z32 none 0 0).toArray
    rwa [World.size_alloc] at this
  go_enter Tryd.func18, Tryd.ntmps18
  go_upto_region 1 with (refine wpList_alloc0 rfl 35 rfl (fetchC z32 none 0 0).toArray _ i35 hi35 hz35 rfl ?_; simp only [Act.put, List.setIfInBounds_toArray, List.set_cons_succ, List.set_cons_zero, World.size_alloc])
  obtain ⟨w1, hw1⟩ : ∃ w1, w1 = (w.alloc (.cells R.toArray 41)).alloc (.cells (fetchC z32 none 0 0).toArray 35) := ⟨_, rfl⟩
  rw [← hw1] at hB hR hZ ⊢
  clear hw1
  have c1 : w1.cell? ⟨w.heap.size, 36, none⟩ = some (.int .i64 k) := by rw [hR.cell]; rw [List.getElem?_toArray]; exact hk
  have HB := Lib.hid hB
  have HZ := Lib.hid hZ
  clear hB hR hZ hk
  by_cases h1 : k < 1
  · go_wp2_with (first | (refine wpList_build0 rfl 35 rfl _ built35z ?_) | (refine wpList_store_row rfl 35 (.tmp 2) (.tmp 12) rfl (w.heap.size + 1) (fetchC z32 none 0 0).toArray rfl rfl 35 (fetchC z32 none 0 0).toArray HZ.out (size35 _ (by simp [fetchC_len])) rfl (fetch_one _ _ _ _) ?_))
    refine bodyPost_ret (results_row_tmp rfl _ _ (w.heap.size + 1) 35 (fetchC z32 none 0 0).toArray (0, 0) _ rfl (setRow_heap _ _ _ _ _ _ HZ.out) und35.choose_spec.1 und35.choose_spec.2 (size35 _ (by simp [fetchC_len]))) rfl ⟨rfl, Below.setRow HB.out (by omega) _⟩
  · have h2 : 256 < k := by omega
    go_wp2_with (first | (refine wpList_build0 rfl 35 rfl _ built35z ?_) | (refine wpList_store_row rfl 35 (.tmp 2) (.tmp 12) rfl (w.heap.size + 1) (fetchC z32 none 0 0).toArray rfl rfl 35 (fetchC z32 none 0 0).toArray HZ.out (size35 _ (by simp [fetchC_len])) rfl (fetch_one _ _ _ _) ?_))
    refine bodyPost_ret (results_row_tmp rfl _ _ (w.heap.size + 1) 35 (fetchC z32 none 0 0).toArray (0, 0) _ rfl (setRow_heap _ _ _ _ _ _ HZ.out) und35.choose_spec.1 und35.choose_spec.2 (size35 _ (by simp [fetchC_len]))) rfl ⟨rfl, Below.setRow HB.out (by omega) _⟩
end Go.Proofs.YthlecmmngldodaaDoor
