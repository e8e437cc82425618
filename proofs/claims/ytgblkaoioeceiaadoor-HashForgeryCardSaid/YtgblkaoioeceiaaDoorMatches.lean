/- The law HashMatchesReference. -/
import Derived.Test.YtgblkaoioeceiaaDoorRSame
import Derived.Test.YtgblkaoioeceiaaDoorBytes
namespace Go.Proofs.YtgblkaoioeceiaaDoor
open Go.RowKit Go.Sort

theorem built32z : Tryd.prog.built 32 [] = some (sumC z32).toArray := by kernel_rfl
theorem wpQuiet_build0_g {P : Program} {ops : Array Oper} {rest : List Oper} {op : Oper} {a : Act} {C : World → Prop} {Q1 : Act → Prop} (hw : Region.wanted op (yielded ops a.tmps) = true) (t : TypeId) (ho : op.op = .build t #[])
    (Z : Array Value) (hZ : P.built t [] = some Z)
    (h : wpQuiet P ops C Q1 rest (a.put op.dst (.agg Z))) : wpQuiet P ops C Q1 (op :: rest) a := by
  unfold wpQuiet
  rw [if_pos hw]
  refine ⟨_, fun w hC => ?_, h⟩
  unfold Oper.quietAt execOp
  simp only [ho, Sem.run_bind]
  rw [show (Array.map (fun (x : Nat × Operand) => (x.fst, a.eval x.snd)) #[]) = #[] from by simp, run_build w t #[] Z hZ]
  exact ⟨rfl, rfl⟩

/-- Proof and the reference's Proof answer alike. -/
theorem proofs_alike (A : Option Addr) (n c : Nat) (ds : List (List UInt8)) (x : Int) (w : World) (hg : Globs w) (hL : Lst w A n ds) (hn : n ≤ 1000000) (hds : ∀ c ∈ ds, c.length ≤ 8796093021000) :
    ∃ (P : List Sum32) (er : Int), (∀ W, Below w.heap.size w W → Calls Tryd.prog 12 #[.slice A n c, .int .i64 x] W fun e w' => ∃ A' n' c', e = .returned (.tuple #[.slice A' n' c', .int .i64 er]) ∧ Rd w' 32 A' n' (P.flatMap sumC) ∧ Below W.heap.size W w') ∧
      (∀ W, Below w.heap.size w W → Calls Tryd.prog 13 #[.slice A n c, .int .i64 x] W fun e w' => ∃ A' n' c', e = .returned (.tuple #[.slice A' n' c', .int .i64 er]) ∧ Rd w' 32 A' n' (P.flatMap sumC) ∧ Below W.heap.size W w') := by
  by_cases hx : x < 0 ∨ (n : Int) ≤ x
  · refine ⟨[], 1, fun W hW => (Proof_bad A n c x hx W hL.le).mono ?_, fun W hW => (RProof_bad A n c x hx W hL.le).mono ?_⟩
    · rintro e w' ⟨rfl, rfl⟩
      exact ⟨_, _, _, rfl, Rd.nil _ _ _, Below.refl _ _⟩
    · rintro e w' ⟨rfl, rfl⟩
      exact ⟨_, _, _, rfl, Rd.nil _ _ _, Below.refl _ _⟩
  · obtain ⟨i, rfl⟩ : ∃ i : Nat, x = (i : Int) := ⟨x.toNat, by omega⟩
    refine ⟨proofL (ds.map leafS) i, 0, fun W hW => (Proof_any A n c i ds W (hg.below hW) (hL.below hW) hn (fun c hc => by have := hds c hc; omega) (by omega)).mono ?_, fun W hW => (RProof_any A n c i ds W (hL.below hW) hn hds (by omega)).mono ?_⟩
    · rintro e w' ⟨A', n', c', rfl, _, hr, hb⟩
      exact ⟨A', n', c', rfl, hr, hb⟩
    · rintro e w' ⟨A', n', c', rfl, _, hr, hb, _⟩
      exact ⟨A', n', c', rfl, hr, hb⟩

set_option maxRecDepth 100000 in
set_option maxHeartbeats 2000000 in
theorem Matches_any (A : Option Addr) (len cap : Nat) (bs : List UInt8) (AL : Option Addr) (lenL capL : Nat) (cs : List (List UInt8)) (x : Int) (w : World) (hg : Globs w) (hr : Rd w 1 A len (bs.map byteV)) (hcap : len ≤ cap) (hL : Lst w AL lenL cs) (_hcapL : lenL ≤ capL) (hx : -128 ≤ x ∧ x ≤ 127) :
    Calls Tryd.prog 3 #[.slice A len cap, .slice AL lenL capL, .int .i8 x] w fun e w' => e = .returned (.bool true) ∧ Below w.heap.size w w' := by
  obtain ⟨i32, hi32, hz32, _, _⟩ := info_parts info32
  have hle := hr.le
  have H1 := Lib.hid (Sanity_any w hg)
  have Hg := Lib.hid hg
  have Hr := Lib.hid hr
  have HL := Lib.hid hL
  clear hg hr hL
  go_enter Tryd.func3, Tryd.ntmps3
  go_wp2_with fail
  refine H1.out.mono ?_
  rintro e w1 ⟨rfl, hb1⟩
  have H2 := Lib.hid (Chunks_any AL lenL capL 7 cs w1 (HL.out.below hb1) (by omega) (by omega))
  have Hg1 := Lib.hid (Hg.out.below hb1)
  have Hr1 := Lib.hid (Hr.out.below hb1)
  have Hb1 := Lib.hid hb1
  clear hb1
  go_upto_region 2 with fail
  obtain ⟨m, hm, hml, hm130⟩ : ∃ m : Nat, (m : Int) = (if (130 : Int) < (len : Int) then 130 else (len : Int)) ∧ m ≤ len ∧ m ≤ 130 := by
    by_cases h : len ≤ 130
    · exact ⟨len, by rw [if_neg (by omega)], Nat.le_refl _, h⟩
    · exact ⟨130, by rw [if_pos (by omega)]; rfl, by omega, Nat.le_refl _⟩
  go_upto_region 3 with fail
  rw [← hm, Int.toNat_natCast]
  have hr2 := Hr1.out.head1 hml
  have hms : (bs.take m).length = m := hr2.len1
  generalize bs.take m = b2 at *
  have Hr2 := Lib.hid hr2
  clear hr2 hm
  go_wp2_with fail
  refine H2.out.mono ?_
  rintro e w2 ⟨A2, n, c, rfl, hnc, hL, hb2⟩
  have hnl := hL.len
  have hcl := chunksL_len cs 7 (by omega)
  have hsm := chunksL_small cs 7
  have hds : ∀ c ∈ chunksL cs 7, c.length ≤ 8796093021000 := fun c hc => by have := hsm c hc; omega
  have hg2 := Hg1.out.below hb2
  have hB2 := Hb1.out.trans (hb2.mono Hb1.out.size)
  generalize chunksL cs 7 = ds at *
  have hn7 : n ≤ 7 := by omega
  obtain ⟨P, er, hp12, hp13⟩ := proofs_alike A2 n c ds x w2 hg2 hL (by omega) hds
  have Hg2 := Lib.hid hg2
  have HB2 := Lib.hid hB2
  have HL2 := Lib.hid hL
  have Hr3 := Lib.hid (Hr2.out.below hb2)
  have Hp12 := Lib.hid hp12
  have Hp13 := Lib.hid hp13
  have Hds := Lib.hid hds
  clear hsm hb2 hg2 hB2 hL hp12 hp13 hds
  go_wp2_with fail
  refine (Hp12.out w2 (Below.refl _ _)).mono ?_
  rintro e w3 ⟨A3, n3, c3, rfl, hr3, hb3⟩
  have Hrp := Lib.hid hr3
  have Hb3 := Lib.hid hb3
  clear hr3 hb3
  go_wp2_with fail
  refine (Hp13.out w3 Hb3.out).mono ?_
  rintro e w4 ⟨A4, n4, c4, rfl, hr4, hb4⟩
  have Hrq := Lib.hid hr4
  have Hrp4 := Lib.hid (Hrp.out.below hb4)
  have Hb4 := Lib.hid (Hb3.out.trans (hb4.mono Hb3.out.size))
  clear hr4 hb4
  have hsum := Sum_any A m cap b2 w4 (Hg2.out.below Hb4.out) (Hr3.out.below Hb4.out) (by omega) (by omega)
  obtain ⟨S, hS⟩ : ∃ S : Sum32, S.1 = sha b2 := ⟨⟨_, sha_length _⟩, rfl⟩
  rw [← hS] at hsum
  have Hsum := Lib.hid hsum
  have HS := Lib.hid hS
  clear hsum hS
  go_wp2_with fail
  refine Hsum.out.mono ?_
  rintro e w5 ⟨rfl, hb5⟩
  have hsS : (sumC S).toArray.size = 32 := by rw [List.size_toArray, sumC_len]
  have hones : (sumC S).toArray.all (·.oneCell') = true := all_oneCell_toArray (oneB _)
  rw [show sumV S.1 = .agg (sumC S).toArray from rfl]
  have hH5 : (w5.alloc (.cells zero32 32)).heap[w5.heap.size]? = some (.cells zero32 32 (0, 0)) := heap_alloc_new _ _
  have Hb5 := Lib.hid hb5
  clear hb5
  go_upto_region 7 with (first | (refine wpList_alloc0 rfl 32 rfl zero32 (.agg zero32) i32 hi32 hz32 rfl ?_; simp only [Act.put, List.setIfInBounds_toArray, List.set_cons_succ, List.set_cons_zero]) | (refine wpList_store_row rfl 32 (.tmp 13) (.tmp 37) rfl w5.heap.size (sumC S).toArray rfl rfl 32 zero32 hH5 (size32 _ hsS) (zero32_size.trans hsS.symm) hones ?_; simp only [Act.put]))
  obtain ⟨w6, hw6⟩ : ∃ w6, w6 = (w5.alloc (.cells zero32 32)).setRow w5.heap.size (sumC S).toArray := ⟨_, rfl⟩
  have hB6 : Below w5.heap.size w5 w6 := by rw [hw6]; exact Below.setRow ((Below.refl _ _).alloc (Nat.le_refl _) _) (Nat.le_refl _) _
  have hX6 : Blk w6 w5.heap.size 32 (sumC S).toArray := by rw [hw6]; exact setRow_heap _ _ _ _ _ _ hH5
  rw [← hw6]
  have hb56 := Hb5.out.trans (hB6.mono Hb5.out.size)
  have hb46 := Hb4.out.trans (hb56.mono Hb4.out.size)
  have hg6 := Hg2.out.below hb46
  have hL6 := HL2.out.below hb46
  have hr6 := Hr3.out.below hb46
  have hp6 := Hrp4.out.below hb56
  have hq6 := Hrq.out.below hb56
  have HB6 := Lib.hid (HB2.out.trans (hb46.mono HB2.out.size))
  have B := fun d os => below_regrown w6 d os
  have k1 : ∀ d os, Calls Tryd.prog 15 #[.slice A m cap] (grow (redrawn w6 d) os) fun e w'' => e = .returned (.agg (sumC S).toArray) ∧ ∃ p : Regrown, w'' = grow (redrawn w6 p.d) p.os := fun d os => by
    have h := RSum_any A m cap b2 _ (hr6.below (B d os)) (by omega)
    rw [← HS.out] at h
    exact Calls.regrown_of h
  have k2 : ∀ d os, Calls Tryd.prog 16 #[.slice A m cap] (grow (redrawn w6 d) os) fun e w'' => e = .returned (.agg (sumC (leafS b2)).toArray) ∧ ∃ p : Regrown, w'' = grow (redrawn w6 p.d) p.os := fun d os =>
    Calls.regrown_of (Leaf_any A m cap b2 _ (hg6.below (B d os)) (hr6.below (B d os)) (by omega))
  have k3 : ∀ d os, Calls Tryd.prog 17 #[.slice A m cap] (grow (redrawn w6 d) os) fun e w'' => e = .returned (.agg (sumC (leafS b2)).toArray) ∧ ∃ p : Regrown, w'' = grow (redrawn w6 p.d) p.os := fun d os =>
    Calls.regrown_of (RLeaf_any A m cap b2 _ (hr6.below (B d os)) (by omega))
  have k4 : ∀ d os, Calls Tryd.prog 18 #[.agg (sumC S).toArray, .agg (sumC z32).toArray] (grow (redrawn w6 d) os) fun e w'' => e = .returned (.agg (sumC (pairS S z32)).toArray) ∧ ∃ p : Regrown, w'' = grow (redrawn w6 p.d) p.os := fun d os =>
    Calls.regrown_of (Pair_any S.1 z32.1 S.2 z32.2 _ (hg6.below (B d os)))
  have k5 : ∀ d os, Calls Tryd.prog 19 #[.agg (sumC S).toArray, .agg (sumC z32).toArray] (grow (redrawn w6 d) os) fun e w'' => e = .returned (.agg (sumC (pairS S z32)).toArray) ∧ ∃ p : Regrown, w'' = grow (redrawn w6 p.d) p.os := fun d os =>
    Calls.regrown_of (RPair_any S.1 z32.1 S.2 z32.2 _)
  have k6 : ∀ d os, Calls Tryd.prog 20 #[.slice A2 n c] (grow (redrawn w6 d) os) fun e w'' => e = .returned (.agg (sumC (root ds)).toArray) ∧ ∃ p : Regrown, w'' = grow (redrawn w6 p.d) p.os := fun d os =>
    Calls.regrown_of (Root_any A2 n c ds _ (hg6.below (B d os)) (hL6.below (B d os)) (by omega) (fun c hc => by have := Hds.out c hc; omega))
  have k7 : ∀ d os, Calls Tryd.prog 21 #[.slice A2 n c] (grow (redrawn w6 d) os) fun e w'' => e = .returned (.agg (sumC (root ds)).toArray) ∧ ∃ p : Regrown, w'' = grow (redrawn w6 p.d) p.os := fun d os =>
    Calls.regrown_of (RRoot_any A2 n c ds _ (hL6.below (B d os)) (by omega) Hds.out)
  have k8 : ∀ d os, Calls Tryd.prog 22 #[.slice A3 n3 c3, .slice A4 n4 c4] (grow (redrawn w6 d) os) fun e w'' => e = .returned (.bool true) ∧ ∃ p : Regrown, w'' = grow (redrawn w6 p.d) p.os := fun d os => by
    have h := RSameSums_any A3 A4 n3 n4 c3 c4 P P _ (hp6.below (B d os)) (hq6.below (B d os))
    rw [decide_eq_true rfl] at h
    exact Calls.regrown_of h
  have hxr := Blk.range (cs := sumC S) hX6
  have hx' : ∀ w', (∃ p : Regrown, w' = grow (redrawn w6 p.d) p.os) → w'.rangeAt w5.heap.size 0 (sumC S) := fun w' hw' j v hv => ((ext_below hw').cell (World.block_lt_of_cell? w6 _ (hxr j v hv))).trans (hxr j v hv)
  have hE : ∀ (y : Sum32) W, (binOp .eql 32 (.agg (sumC y).toArray) (.agg (sumC y).toArray)).run Tryd.prog W = .ok (.bool true) W := fun y W => by rw [run_eql_sum, decide_eq_true rfl]
  have hE1 := hE S
  have hE2 := hE (leafS b2)
  have hE3 := hE (pairS S z32)
  have hE4 := hE (root ds)
  have Hx' := Lib.hid hx'
  clear hE hx' hxr B hg6 hL6 hr6 hp6 hq6 hb56 hb46 hB6 hX6 hw6 hH5 hsS hones
  refine wp_region_quiet_below (by kernel_rfl) (by kernel_rfl) ?_
  repeat (first | (refine wpQuiet_build0_g (by first | rfl | simp [Region.wanted, yielded]) 32 rfl _ built32z ?_; simp only [Act.put, List.setIfInBounds_toArray, List.set_cons_succ, List.set_cons_zero]) | go_big_quiet_step (first | with_reducible exact k1 _ _ | with_reducible exact k2 _ _ | with_reducible exact k3 _ _ | with_reducible exact k4 _ _ | with_reducible exact k5 _ _ | with_reducible exact k6 _ _ | with_reducible exact k7 _ _ | with_reducible exact k8 _ _) | (refine wpQuiet_load_mid_g (by first | rfl | simp [Region.wanted, yielded]) 32 (.tmp 13) rfl w5.heap.size 0 rfl (sumC S) _ Hx'.out und32 rfl (by rw [sumC_len]; kernel_rfl) ?_; simp only [Act.put, List.setIfInBounds_toArray, List.set_cons_succ, List.set_cons_zero]))
  refine wpQuiet_nil ?_
  intro wz hwz
  have hbz := HB6.out.trans ((ext_below hwz).mono HB6.out.size)
  have Hbz := Lib.hid hbz
  clear hbz hwz k1 k2 k3 k4 k5 k6 k7 k8 hE1 hE2 hE3 hE4
  go_wp2
  go_ret
  exact ⟨rfl, Hbz.out⟩
end Go.Proofs.YtgblkaoioeceiaaDoor
