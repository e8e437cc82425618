/- Package net: Parse. -/
import Derived.Test.YteofgkdpknaapaaN8
import Derived.Defers
import Derived.Recover
import Derived.Laws.Pointers
namespace Go.Proofs.Yteofgkdpknaapaa
open Go.RowKit Go.Sort

set_option maxRecDepth 100000 in
set_option maxHeartbeats 1000000 in
theorem catch_idle (p q : Addr) (w : World) :
    CallsD Try.prog 37 #[.pointer (some p), .pointer (some q)] .returning w fun e u' w' => e = .returned (.tuple #[]) ∧ u' = .returning ∧ w' = w := by
  refine callsD_of_wpS Try.func37 rfl fun c₀ cs hu => ?_
  apply wpS_seq
  apply wpS_region
  simp [wpOpsS, go_sem, recoverD, hu, Try.ntmps37, Exit.thenS]
  refine wpS_of_wp ?_
  go_wp2_with fail
  cases c₀
  simp_all [bodyPostS, results, Try.results37]
theorem info39p : (Try.prog.info? 39).map (fun i => (i.zero, i.size, i.bytes)) = some (some (.agg (pkC 0 0 0 nl nl nl nl).toArray), 7, 120) := by kernel_rfl
theorem built39p (k u n : Int) : Try.prog.built 39 [(0, .int .i64 k), (1, .int .i64 u), (2, .int .i64 n)] = some (pkC k u n nl nl nl nl).toArray := by kernel_rfl
theorem built39z : Try.prog.built 39 [] = some (pkC 0 0 0 nl nl nl nl).toArray := by kernel_rfl
theorem size39p (cs : Array Value) (h : cs.size = 7) : (Try.prog.info? 39).map (·.size) = some cs.size := by rw [h]; kernel_rfl
theorem size75p (cs : Array Value) (h : cs.size = 0) : (Try.prog.info? 75).map (·.size) = some cs.size := by rw [h]; kernel_rfl
theorem pk_one (k u n : Int) : (pkC k u n nl nl nl nl).toArray.all (·.oneCell') = true := all_oneCell_toArray fun v hv => by
  simp only [pkC, List.mem_cons, List.not_mem_nil, or_false] at hv
  rcases hv with rfl | rfl | rfl | rfl | rfl | rfl | rfl <;> rfl
theorem run_assert_dmg (w : World) : (Instr.typeAssert (.iface 75 (.agg #[])) 20 75 true).run Try.prog w = .ok (.tuple #[.agg #[], .bool true]) w := by
  unfold Instr.typeAssert
  simp [Sem.run_bind, run_underlying Try.underlying75]
theorem info75 : (Try.prog.info? 75).map (fun i => (i.zero, i.size, i.bytes)) = some (some (.agg #[]), 0, 0) := by kernel_rfl
set_option maxRecDepth 100000 in
set_option maxHeartbeats 1000000 in
theorem catch_dmg (pb eb : Nat) (k u n : Int) (vd vp vb vs : Value) (e0 : Int) (older : List PanicEntry) (w : World) (hP : Blk w pb 39 (pkC k u n vd vp vb vs).toArray) (hE : Blk w eb 40 #[.int .i64 e0]) :
    CallsD Try.prog 37 #[.pointer (some ⟨pb, 0, none⟩), .pointer (some ⟨eb, 0, none⟩)] (.panicking ({ v := .iface 75 (.agg #[]), recovered := false } :: older)) w fun e u' w' => e = .returned (.tuple #[]) ∧ u' = .panicking ({ v := .iface 75 (.agg #[]), recovered := true } :: older) ∧ Blk w' pb 39 (pkC 0 0 0 nl nl nl nl).toArray ∧ Blk w' eb 40 #[.int .i64 310] ∧ KeptIn (fun q => q ≠ pb ∧ q ≠ eb ∧ q < w.heap.size) w w' := by
  have hta := run_assert_dmg
  obtain ⟨i75, hi75, hz75, hs75, _⟩ := info_parts info75
  refine callsD_of_wpS Try.func37 rfl fun c₀ cs hu => ?_
  apply wpS_seq
  apply wpS_region
  simp [wpOpsS, go_sem, recoverD, hu, Try.ntmps37, Exit.thenS]
  have hfr : ∀ X : Value, (#[Value.pointer (some ⟨pb, 0, none⟩), Value.pointer (some ⟨eb, 0, none⟩)] ++ ((Array.replicate 15 undef).setIfInBounds 3 X).setIfInBounds 0 X) = #[.pointer (some ⟨pb, 0, none⟩), .pointer (some ⟨eb, 0, none⟩), X, undef, undef, X, undef, undef, undef, undef, undef, undef, undef, undef, undef, undef, undef] := fun _ => rfl
  refine wpS_of_wp ?_
  rw [hfr]
  go_upto_region 2 with fail
  obtain ⟨w2, hw2⟩ : ∃ v, v = w.alloc (.cells #[] 75) := ⟨_, rfl⟩
  have hb2 : Below w.heap.size w w2 := by rw [hw2]; exact (Below.refl _ _).alloc (Nat.le_refl _) _
  have hP2 := hP.below hb2 hP.lt
  have hE2 := hE.below hb2 hE.lt
  have hne : pb ≠ eb := hP.ne hE (by decide)
  obtain ⟨w3, hw3⟩ : ∃ v, v = w2.setRow pb (pkC 0 0 0 nl nl nl nl).toArray := ⟨_, rfl⟩
  have hP3 : Blk w3 pb 39 (pkC 0 0 0 nl nl nl nl).toArray := by rw [hw3]; exact setRow_heap _ _ _ _ _ _ hP2
  have hk3 : KeptIn (fun q => q ≠ pb) w2 w3 := by rw [hw3]; exact (KeptIn.refl (fun q => q ≠ pb) w2).setRow (g := pb) (fun h => h rfl) _
  have hE3 := hE2.keptIn hk3 (fun e => hne e.symm)
  have e3 : w3.cell? ⟨eb, 0, none⟩ = some (.int .i64 e0) := by rw [hE3.cell]; rfl
  have z3 := hE3.frozen 0
  have hsz : w3.heap.size = w2.heap.size := by rw [hw3, size_setRow]
  have Hk := Lib.hid (show KeptIn (fun q => q ≠ pb ∧ q ≠ eb ∧ q < w.heap.size) w (w3.setCell ⟨eb, 0, none⟩ (.int .i64 310)) from
    KeptIn.trans (KeptIn.of_below (S := fun q => q ≠ pb ∧ q ≠ eb ∧ q < w.heap.size) hb2 fun q hq => hq.2.2) (KeptIn.trans (KeptIn.mono hk3 fun q hq => hq.1) ((KeptIn.refl _ w3).setAt (fun hq => hq.2.1 rfl) _)))
  have HP4 := Lib.hid (show Blk (w3.setCell ⟨eb, 0, none⟩ (.int .i64 310)) pb 39 (pkC 0 0 0 nl nl nl nl).toArray from hP3.keptIn ((KeptIn.refl (fun q => q ≠ eb) w3).setAt (fun h => h rfl) _) hne)
  have HE4 := Lib.hid (show Blk (w3.setCell ⟨eb, 0, none⟩ (.int .i64 310)) eb 40 #[.int .i64 310] from one_setCell hE3)
  have HW3 := Lib.hid hw3
  have HP2 := Lib.hid hP2
  clear hP hE hb2 hE2 hP3 hk3 hE3 hsz hw3 hP2
  subst hw2
  go_wp2_with (first | (refine wpList_alloc0 rfl 75 rfl #[] _ i75 hi75 hz75 rfl ?_; simp only [Act.put, List.setIfInBounds_toArray, List.set_cons_succ, List.set_cons_zero]) | (refine wpList_buildN rfl 39 _ rfl [] rfl _ built39z ?_) | (refine wpList_store_row rfl 39 (.tmp 0) (.tmp 16) rfl pb (pkC 0 0 0 nl nl nl nl).toArray rfl rfl 39 _ HP2.out (size39p _ rfl) rfl (pk_one _ _ _) ?_; rw [← HW3.out]))
  cases c₀
  simp_all [bodyPostS, results, Try.results37]
  exact ⟨HP4.out, HE4.out, Hk.out⟩
end Go.Proofs.Yteofgkdpknaapaa
