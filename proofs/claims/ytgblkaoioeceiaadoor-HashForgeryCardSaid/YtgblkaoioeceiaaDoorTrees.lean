/- The law HashTrees. -/
import Derived.Test.YtgblkaoioeceiaaDoorChunks
namespace Go.Proofs.YtgblkaoioeceiaaDoor
open Go.RowKit Go.Sort

theorem rs2 (a b : Sum32) : rootL [a, b] = pairS (rootL [a]) (rootL [b]) := by kernel_rfl
theorem rs3 (a b c : Sum32) : rootL [a, b, c] = pairS (rootL [a, b]) (rootL [c]) := by kernel_rfl
theorem rs4 (a b c d : Sum32) : rootL [a, b, c, d] = pairS (rootL [a, b]) (rootL [c, d]) := by kernel_rfl
theorem rs5 (a b c d e : Sum32) : rootL [a, b, c, d, e] = pairS (rootL [a, b, c, d]) (rootL [e]) := by kernel_rfl
theorem rs6 (a b c d e f : Sum32) : rootL [a, b, c, d, e, f] = pairS (rootL [a, b, c, d]) (rootL [e, f]) := by kernel_rfl
theorem rs7 (a b c d e f g : Sum32) : rootL [a, b, c, d, e, f, g] = pairS (rootL [a, b, c, d]) (rootL [e, f, g]) := by kernel_rfl
theorem rs8 (a b c d e f g h : Sum32) : rootL [a, b, c, d, e, f, g, h] = pairS (rootL [a, b, c, d]) (rootL [e, f, g, h]) := by kernel_rfl
theorem rs9 (a b c d e f g h i : Sum32) : rootL [a, b, c, d, e, f, g, h, i] = pairS (rootL [a, b, c, d, e, f, g, h]) (rootL [i]) := by kernel_rfl
theorem root_split (k : Nat) (hk : k = 1 ∨ k = 2 ∨ k = 4 ∨ k = 8) (xs : List Sum32) (h1 : k < xs.length) (h2 : xs.length ≤ 2 * k) (h9 : xs.length ≤ 9) : rootL xs = pairS (rootL (xs.take k)) (rootL (xs.drop k)) := by
  rcases hk with rfl | rfl | rfl | rfl
  · match xs, h1, h2 with
    | [a, b], _, _ => exact rs2 a b
  · match xs, h1, h2 with
    | [a, b, c], _, _ => exact rs3 a b c
    | [a, b, c, d], _, _ => exact rs4 a b c d
  · match xs, h1, h2 with
    | [a, b, c, d, e], _, _ => exact rs5 a b c d e
    | [a, b, c, d, e, f], _, _ => exact rs6 a b c d e f
    | [a, b, c, d, e, f, g], _, _ => exact rs7 a b c d e f g
    | [a, b, c, d, e, f, g, h], _, _ => exact rs8 a b c d e f g h
  · match xs, h1, h2, h9 with
    | [a, b, c, d, e, f, g, h, i], _, _, _ => exact rs9 a b c d e f g h i
theorem root_ne (cs : List (List UInt8)) (h : 0 < cs.length) : root cs = rootL (cs.map leafS) := by
  cases cs with
  | nil => simp at h
  | cons c cs => rfl
theorem root_one (c : List UInt8) : root [c] = leafS c := rootL_one [leafS c] (by simp)
theorem root_parts (k : Nat) (hk : k = 1 ∨ k = 2 ∨ k = 4 ∨ k = 8) (cs : List (List UInt8)) (h1 : k < cs.length) (h2 : cs.length ≤ 2 * k) (h9 : cs.length ≤ 9) : root cs = pairS (root (cs.take k)) (root (cs.drop k)) := by
  rw [root_ne cs (by omega), root_ne (cs.take k) (by rw [List.length_take]; omega), root_ne (cs.drop k) (by rw [List.length_drop]; omega), root_split k hk _ (by simpa using h1) (by simpa using h2) (by simpa using h9), List.map_take, List.map_drop]

/-- A part of a slice of slices. -/
theorem Lst.part {w : World} {n i j b off : Nat} {cs : List (List UInt8)} (h : Lst w (some ⟨b, off, none⟩) n cs) (hij : i ≤ j) (hj : j ≤ n) : Lst w (some ⟨b, off + i, none⟩) (j - i) ((cs.take j).drop i) := by
  obtain ⟨vs, h1, h2, h3⟩ := h
  refine ⟨(vs.take j).drop i, h1.part hij hj, by simp; omega, fun k v c hv hc => ?_⟩
  rw [List.getElem?_drop, List.getElem?_take] at hv hc
  split at hv
  · rename_i hlt
    rw [if_pos hlt] at hc
    exact h3 (i + k) v c hv hc
  · cases hv
theorem cellsOf22 : Tryd.prog.cellsOf 22 = 1 := by kernel_rfl
theorem elem23 : Tryd.prog.elem 23 = 22 := by kernel_rfl
theorem und23 : Tryd.prog.underlying 23 = some (.slice (Tryd.prog.elem 23)) := by rw [elem23]; exact Tryd.underlying23
theorem run_lists_head (b off len cap k : Nat) (h0 : 0 < cap) (hk : k ≤ cap) (w : World) :
    (Instr.slice 23 (.slice (some ⟨b, off, none⟩) len cap) none (some (.int .i64 (k : Int))) none).run Tryd.prog w = .ok (.slice (some ⟨b, off, none⟩) k cap) w := by
  obtain ⟨iE, hi'⟩ : ∃ i, Tryd.prog.info? 22 = some i := by
    have := cellsOf22
    unfold Program.cellsOf at this
    cases h : Tryd.prog.info? 22 with
    | none => simp [h] at this
    | some i => exact ⟨i, rfl⟩
  rw [run_slice_h (P := Tryd.prog) w 23 _ len cap und23 .i64 (k : Int) (by omega) (by omega), elem23, run_sizeOf w hi', cellsOf22]
  simp only [Result.andThen_ok, sliced, Int.toNat_natCast, Option.map_some]
  rw [if_neg (by omega)]
  have hadd : (⟨b, off, none⟩ : Addr).add (0 * 1) = ⟨b, off, none⟩ := by unfold Addr.add; split <;> simp_all
  rw [hadd]
  rfl
theorem run_lists_tail (b off len cap k : Nat) (hk : k < len) (hc : len ≤ cap) (w : World) :
    (Instr.slice 23 (.slice (some ⟨b, off, none⟩) len cap) (some (.int .i64 (k : Int))) none none).run Tryd.prog w = .ok (.slice (some ⟨b, off + k, none⟩) (len - k) (cap - k)) w := by
  obtain ⟨iE, hi'⟩ : ∃ i, Tryd.prog.info? 22 = some i := by
    have := cellsOf22
    unfold Program.cellsOf at this
    cases h : Tryd.prog.info? 22 with
    | none => simp [h] at this
    | some i => exact ⟨i, rfl⟩
  rw [run_slice_l (P := Tryd.prog) w 23 _ len cap und23 .i64 (k : Int) (by omega) (by omega), elem23, run_sizeOf w hi', cellsOf22]
  simp only [Result.andThen_ok, sliced, Int.toNat_natCast, Option.map_some, Nat.mul_one]
  rw [if_neg (by omega)]
  have hadd : (⟨b, off, none⟩ : Addr).add k = ⟨b, off + k, none⟩ := by unfold Addr.add; split <;> simp_all
  rw [hadd]

set_option maxRecDepth 100000 in
set_option maxHeartbeats 1000000 in
theorem Trees_any (A : Option Addr) (len cap : Nat) (cs : List (List UInt8)) (w : World) (hg : Globs w) (hr : Lst w A len cs) (_hcap : len ≤ cap) :
    Calls Tryd.prog 8 #[.slice A len cap] w fun e w' => e = .returned (.bool true) ∧ Below w.heap.size w w' := by
  have H1 := Lib.hid (Sanity_any w hg)
  have Hg := Lib.hid hg
  have Hr := Lib.hid hr
  clear hg hr
  go_enter Tryd.func8, Tryd.ntmps8
  go_wp2_with fail
  refine H1.out.mono ?_
  rintro e w1 ⟨rfl, hb1⟩
  have H2 := Lib.hid (Chunks_any A len cap 9 cs w1 (Hr.out.below hb1) (by omega) (by omega))
  have Hg1 := Lib.hid (Hg.out.below hb1)
  have Hb1 := Lib.hid hb1
  clear hb1
  go_wp2_with fail
  refine H2.out.mono ?_
  rintro e w2 ⟨A2, n, c, rfl, hnc, hL, hb2⟩
  have hnl := hL.len
  have hcl := chunksL_len cs 9 (by omega)
  have hsm := chunksL_small cs 9
  have hcs : ∀ c ∈ chunksL cs 9, c.length ≤ 8796093022000 := fun c hc => by have := hsm c hc; omega
  have Hg2 := Lib.hid (Hg1.out.below hb2)
  have HB2 := Lib.hid (Hb1.out.trans (hb2.mono Hb1.out.size))
  clear hsm hb2
  generalize chunksL cs 9 = ds at *
  by_cases h1 : n = 1
  · subst h1
    obtain ⟨c0, rfl⟩ : ∃ c0, ds = [c0] := by
      match ds, hnl with
      | [c0], _ => exact ⟨c0, rfl⟩
    obtain ⟨b, off, v, c', rfl, hx, cc, hrd, hvc⟩ := hL.at_ (k := 0) (by omega)
    cases hx
    have hvn := hrd.len1
    have hc8 := hcs c0 (by simp)
    have k1 : ∀ d os, Calls Tryd.prog 20 #[.slice (some ⟨b, off, none⟩) 1 c] (grow (redrawn w2 d) os) fun e w'' => e = .returned (.agg (sumC (leafS c0)).toArray) ∧ ∃ p : Regrown, w'' = grow (redrawn w2 p.d) p.os := fun d os => by
      have := Root_any (some ⟨b, off, none⟩) 1 c [c0] _ (Hg2.out.below (below_regrown w2 d os)) (hL.below (below_regrown w2 d os)) (by omega) hcs
      rw [root_one] at this
      exact Calls.regrown_of this
    have k2 : ∀ d os, Calls Tryd.prog 16 #[.slice v.a v.n v.c] (grow (redrawn w2 d) os) fun e w'' => e = .returned (.agg (sumC (leafS c0)).toArray) ∧ ∃ p : Regrown, w'' = grow (redrawn w2 p.d) p.os := fun d os =>
      Calls.regrown_of (Leaf_any v.a v.n v.c c0 _ (Hg2.out.below (below_regrown w2 d os)) (hrd.below (below_regrown w2 d os)) (by omega))
    have hE : ∀ W, (binOp .eql 32 (.agg (sumC (leafS c0)).toArray) (.agg (sumC (leafS c0)).toArray)).run Tryd.prog W = .ok (.bool true) W := fun W => by rw [run_eql_sum, decide_eq_true rfl]
    have kc := cell_regrown cc
    rw [Nat.add_zero] at kc
    clear hL hrd hcs cc hcl hnl
    go_wp2_with fail
    refine wp_region_quiet_below (by kernel_rfl) (by kernel_rfl) ?_
    repeat (go_big_quiet_step (first | with_reducible exact k1 _ _ | with_reducible exact k2 _ _))
    refine wpQuiet_nil ?_
    intro wz hwz
    have Hbz := Lib.hid (HB2.out.trans ((ext_below hwz).mono HB2.out.size))
    clear hwz k1 k2 kc hE
    go_wp2
    go_ret
    exact ⟨rfl, Hbz.out⟩
  · have hn2 : 2 ≤ n := by omega
    obtain ⟨b, off, v, c', rfl, hx, cc, hrd, hvc⟩ := hL.at_ (k := 0) (by omega)
    have HL := Lib.hid hL
    have Hcs := Lib.hid hcs
    clear hx cc hrd hvc hL hcs
    go_wp2_with fail
    go_loopw [5] (fun t wr => ∃ k : Nat, t = .int .i64 k ∧ (k = 1 ∨ k = 2 ∨ k = 4 ∨ k = 8) ∧ k < n ∧ wr = w2) (fun t _ => 9 - (intOf t).toNat)
    case atStart => exact ⟨1, rfl, .inl rfl, by omega, rfl⟩
    case round =>
      obtain ⟨k, rfl, hk, hkn, rfl⟩ := hrel
      by_cases h2k : 2 * k < n
      · go_wp2
        exact ⟨⟨2 * k, by go_num, by omega, h2k, by first | rfl | trivial⟩, by simp [intOf]; omega⟩
      · have hsplit := root_parts k hk ds (by omega) (by omega) (by omega)
        have hA := run_lists_head b off n c k (by omega) (by omega)
        have hB := run_lists_tail b off n c k hkn hnc
        have hpA := HL.out.part (i := 0) (j := k) (by omega) (by omega)
        have hpB := HL.out.part (i := k) (j := n) (by omega) (Nat.le_refl _)
        rw [Nat.add_zero, Nat.sub_zero, List.drop_zero] at hpA
        rw [List.take_of_length_le (by omega)] at hpB
        have hcA : ∀ c ∈ ds.take k, c.length ≤ 8796093022000 := fun c hc => Hcs.out c (List.mem_of_mem_take hc)
        have hcB : ∀ c ∈ ds.drop k, c.length ≤ 8796093022000 := fun c hc => Hcs.out c (List.mem_of_mem_drop hc)
        have k1 : ∀ d os, Calls Tryd.prog 20 #[.slice (some ⟨b, off, none⟩) n c] (grow (redrawn wr d) os) fun e w'' => e = .returned (.agg (sumC (pairS (root (ds.take k)) (root (ds.drop k)))).toArray) ∧ ∃ p : Regrown, w'' = grow (redrawn wr p.d) p.os := fun d os => by
          have := Root_any (some ⟨b, off, none⟩) n c ds _ (Hg2.out.below (below_regrown wr d os)) (HL.out.below (below_regrown wr d os)) (by omega) Hcs.out
          rw [hsplit] at this
          exact Calls.regrown_of this
        have k2 : ∀ d os, Calls Tryd.prog 20 #[.slice (some ⟨b, off, none⟩) k c] (grow (redrawn wr d) os) fun e w'' => e = .returned (.agg (sumC (root (ds.take k))).toArray) ∧ ∃ p : Regrown, w'' = grow (redrawn wr p.d) p.os := fun d os =>
          Calls.regrown_of (Root_any (some ⟨b, off, none⟩) k c _ _ (Hg2.out.below (below_regrown wr d os)) (hpA.below (below_regrown wr d os)) (by omega) hcA)
        have k3 : ∀ d os, Calls Tryd.prog 20 #[.slice (some ⟨b, off + k, none⟩) (n - k) (c - k)] (grow (redrawn wr d) os) fun e w'' => e = .returned (.agg (sumC (root (ds.drop k))).toArray) ∧ ∃ p : Regrown, w'' = grow (redrawn wr p.d) p.os := fun d os =>
          Calls.regrown_of (Root_any (some ⟨b, off + k, none⟩) (n - k) (c - k) _ _ (Hg2.out.below (below_regrown wr d os)) (hpB.below (below_regrown wr d os)) (by omega) hcB)
        clear hsplit hpA hpB hcA hcB
        generalize root (ds.take k) = ra at *
        generalize root (ds.drop k) = rb at *
        have k4 : ∀ d os, Calls Tryd.prog 18 #[.agg (sumC ra).toArray, .agg (sumC rb).toArray] (grow (redrawn wr d) os) fun e w'' => e = .returned (.agg (sumC (pairS ra rb)).toArray) ∧ ∃ p : Regrown, w'' = grow (redrawn wr p.d) p.os := fun d os =>
          Calls.regrown_of (Pair_any ra.1 rb.1 ra.2 rb.2 _ (Hg2.out.below (below_regrown wr d os)))
        have hE : ∀ W, (binOp .eql 32 (.agg (sumC (pairS ra rb)).toArray) (.agg (sumC (pairS ra rb)).toArray)).run Tryd.prog W = .ok (.bool true) W := fun W => by rw [run_eql_sum, decide_eq_true rfl]
        have hn9 : n ≤ 9 := by omega
        clear hcl hnl hk
        go_wp2_with fail
        refine wp_region_quiet_below (by kernel_rfl) (by kernel_rfl) ?_
        repeat (go_big_quiet_step (first | with_reducible exact k1 _ _ | with_reducible exact k2 _ _ | with_reducible exact k3 _ _ | with_reducible exact k4 _ _))
        refine wpQuiet_nil ?_
        intro wz hwz
        have Hbz := Lib.hid (HB2.out.trans ((ext_below hwz).mono HB2.out.size))
        clear hwz k1 k2 k3 k4 hE hA hB
        go_wp2
        go_ret
        exact ⟨rfl, Hbz.out⟩
end Go.Proofs.YtgblkaoioeceiaaDoor
