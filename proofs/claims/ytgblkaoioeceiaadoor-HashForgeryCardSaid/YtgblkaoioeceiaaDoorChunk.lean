/- slices.Chunk of two, over hashes: the iterator. -/
import Derived.Test.YtgblkaoioeceiaaDoorLeaves
namespace Go.Proofs.YtgblkaoioeceiaaDoor
open Go.RowKit Go.Shelf

attribute [local go_sem] Oper.semAt_some

/-- A piece of two places, or of one at the end. -/
abbrev Pc (len : Nat) := { k : Nat // 2 * k < len }
def pcN (len k : Nat) : Nat := min 2 (len - 2 * k)
def pcV (b off len : Nat) (x : Pc len) : Value := .slice (some ⟨b, off + 2 * x.1 * 32, none⟩) (pcN len x.1) (pcN len x.1)

theorem size32' : Tryd.prog.cellsOf 32 = 32 := by kernel_rfl
theorem elem27 : Tryd.prog.elem 27 = 32 := by kernel_rfl
theorem und27 : Tryd.prog.underlying 27 = some (.slice (Tryd.prog.elem 27)) := by rw [elem27]; exact Tryd.underlying27
theorem run_slice_sums (b off len cap i : Nat) (hi : i < len) (hc : len ≤ cap) (w : World) :
    (Instr.slice 27 (.slice (some ⟨b, off, none⟩) len cap) (some (.int .i64 (i : Int))) none none).run Tryd.prog w = .ok (.slice (some ⟨b, off + i * 32, none⟩) (len - i) (cap - i)) w := by
  obtain ⟨iE, hi'⟩ : ∃ i, Tryd.prog.info? 32 = some i := by
    have := size32'
    unfold Program.cellsOf at this
    cases h : Tryd.prog.info? 32 with
    | none => simp [h] at this
    | some i => exact ⟨i, rfl⟩
  rw [run_slice_l (P := Tryd.prog) w 27 _ len cap und27 .i64 (i : Int) (by omega) (by omega), elem27, run_sizeOf w hi', size32']
  simp only [Result.andThen_ok, sliced, Int.toNat_natCast, Option.map_some]
  rw [if_neg (by omega)]
  have hadd : (⟨b, off, none⟩ : Addr).add (i * 32) = ⟨b, off + i * 32, none⟩ := by unfold Addr.add; split <;> simp_all
  rw [hadd]
theorem run_slice_piece (b off len cap i j : Nat) (hij : i < j) (hj : j ≤ cap) (w : World) :
    (Instr.slice 27 (.slice (some ⟨b, off, none⟩) len cap) (some (.int .i64 (i : Int))) (some (.int .i64 (j : Int))) (some (.int .i64 (j : Int)))).run Tryd.prog w = .ok (.slice (some ⟨b, off + i * 32, none⟩) (j - i) (j - i)) w := by
  obtain ⟨iE, hi'⟩ : ∃ i, Tryd.prog.info? 32 = some i := by
    have := size32'
    unfold Program.cellsOf at this
    cases h : Tryd.prog.info? 32 with
    | none => simp [h] at this
    | some i => exact ⟨i, rfl⟩
  rw [run_slice_lhm (P := Tryd.prog) w 27 _ len cap und27 .i64 .i64 .i64 (i : Int) (j : Int) (j : Int) (by omega) (by omega) (by omega) (by omega), elem27, run_sizeOf w hi', size32']
  simp only [Result.andThen_ok, sliced, Int.toNat_natCast, Option.map_some]
  rw [if_neg (by omega)]
  have hadd : (⟨b, off, none⟩ : Addr).add (i * 32) = ⟨b, off + i * 32, none⟩ := by unfold Addr.add; split <;> simp_all
  rw [hadd]

set_option maxRecDepth 100000 in
set_option maxHeartbeats 1000000 in
theorem chunk1_in (n : Nat) (hn : 1 ≤ n) (l B1 B2 : Nat) (S : Nat → Prop) (b off len cap : Nat) (hlen : len ≤ 1000000) (hcap : len ≤ cap) (J Jx : List (Pc len) → World → Prop) (hDr : ∀ s W m, J s W → J s (W.drewN m))
    (hY : ∀ pre x W, J pre W → pre.length < len → YieldAt Fence.wide (n - 1) Tryd.prog l #[pcV b off len x] W fun e W' =>
      (e = .returned (.bool true) ∧ J (pre ++ [x]) W' ∧ KeptIn S W W') ∨ (e = .returned (.bool false) ∧ Jx (pre ++ [x]) W'))
    (W : World) (hB1 : W.cell? ⟨B1, 0, none⟩ = some (.slice (some ⟨b, off, none⟩) len cap)) (hB2 : W.cell? ⟨B2, 0, none⟩ = some (.int .i64 2))
    (l1 : S B1) (l2 : S B2) (h0 : J [] W) :
    CallsIn Fence.wide n Tryd.prog 46 #[.func (.yield l) #[] #[], .pointer (some ⟨B1, 0, none⟩), .pointer (some ⟨B2, 0, none⟩)] W fun e W' => (∃ v, e = .returned v) ∧
      ((∃ ys : List (Pc len), ys.map (·.1) = List.range ((len + 1) / 2) ∧ J ys W') ∨ (∃ pre, True ∧ Jx pre W')) := by
  refine callsIn_of_wp Tryd.func46 rfl trivial ?_ rfl
  simp only [Tryd.ntmps46, List.size_toArray, List.length_cons, List.length_nil, Nat.reduceAdd, Nat.reduceSub, Array.replicate_succ, Array.replicate_zero, List.push_toArray, List.append_toArray, List.nil_append, List.cons_append]
  gi_wp2
  gi_loopw [4, 5] (fun i _ wr => ∃ (k : Nat) (pre : List (Pc len)), 2 * k ≤ len + 1 ∧ i = .int .i64 (((2 * k : Nat)) : Int) ∧ pre.map (·.1) = List.range k ∧ J pre wr ∧ KeptIn S W wr) (fun i _ _ => len + 2 - (intOf i).toNat)
  case atStart => exact ⟨0, [], by omega, rfl, rfl, h0, KeptIn.refl _ _⟩
  case round =>
    obtain ⟨k, pre, hk, rfl, hpre, hJs, hnx⟩ := hrel
    have c1 : wr.cell? ⟨B1, 0, none⟩ = some (.slice (some ⟨b, off, none⟩) len cap) := (hnx.cell (p := ⟨B1, 0, none⟩) l1).trans hB1
    have c2 : wr.cell? ⟨B2, 0, none⟩ = some (.int .i64 2) := (hnx.cell (p := ⟨B2, 0, none⟩) l2).trans hB2
    have hpl : pre.length = k := by have := congrArg List.length hpre; simpa using this
    clear hB1 hB2
    by_cases hlt : 2 * k < len
    · have hs1 := run_slice_sums b off len cap (2 * k) hlt hcap
      gi_wp2
      refine wpIn_wide.2 ?_
      go_quiet (fail)
      have hp : (if ((len - 2 * k : Nat) : Int) < 2 then ((len - 2 * k : Nat) : Int) else 2) = ((pcN len k : Nat) : Int) := by unfold pcN; split <;> omega
      have hp1 : 1 ≤ pcN len k := by unfold pcN; omega
      have hp2 : 2 * k + pcN len k ≤ len := by unfold pcN; omega
      rw [hp]
      obtain ⟨fn, tmps, assign, body, hy, hR⟩ := hY pre ⟨k, hlt⟩ (wr.drewN nq) (hDr _ _ _ hJs) (by omega)
      unfold pcV at hy
      dsimp only at hy
      have c1' : (wr.drewN nq).cell? ⟨B1, 0, none⟩ = some (.slice (some ⟨b, off, none⟩) len cap) := c1
      have c2' : (wr.drewN nq).cell? ⟨B2, 0, none⟩ = some (.int .i64 2) := c2
      clear hs1 hp c1 c2
      generalize pcN len k = pq at *
      gi_wp2
      refine hR.mono ?_
      rintro e W3 (⟨rfl, hJ3, hk3⟩ | ⟨rfl, hJx3⟩)
      · have hk4 : KeptIn S wr W3 := KeptIn.trans (⟨rfl, rfl, rfl, Nat.le_refl _, fun _ _ => rfl⟩ : KeptIn S wr (wr.drewN nq)) hk3
        have c3 : W3.cell? ⟨B2, 0, none⟩ = some (.int .i64 2) := (hk3.cell (p := ⟨B2, 0, none⟩) l2).trans c2'
        clear c1' c2'
        gi_wp2
        exact ⟨⟨k + 1, pre ++ [⟨k, hlt⟩], by omega, by go_num, by rw [List.map_append, hpre, List.range_succ]; rfl, hJ3, hnx.trans hk4⟩, by simp [intOf]; omega⟩
      · gi_wp2
        refine bodyPost_ret (results_none rfl _ _ _) rfl ?_
        exact ⟨⟨_, rfl⟩, .inr ⟨_, trivial, hJx3⟩⟩
    · obtain rfl : k = (len + 1) / 2 := by omega
      gi_wp2
      go_end0
      exact ⟨⟨_, rfl⟩, .inl ⟨pre, hpre, hJs⟩⟩

theorem grownBy_drewN (W : World) (m : Nat) : W.grownBy (W.drewN m) none := ⟨rfl, rfl, rfl, Nat.le_refl _, fun _ _ _ => rfl⟩
/-- What Chunk hands back yields the pieces. -/
theorem chunk_stops (n : Nat) (hn : 1 ≤ n) (B1 B2 : Nat) (S : Nat → Prop) (b off len cap : Nat) (hlen : len ≤ 1000000) (hcap : len ≤ cap)
    (w : World) (hB1 : w.cell? ⟨B1, 0, none⟩ = some (.slice (some ⟨b, off, none⟩) len cap)) (hB2 : w.cell? ⟨B2, 0, none⟩ = some (.int .i64 2)) (l1 : S B1) (l2 : S B2) :
    SeqStopsK Fence.wide n Tryd.prog 46 #[.pointer (some ⟨B1, 0, none⟩), .pointer (some ⟨B2, 0, none⟩)]
      (fun x : Pc len => #[pcV b off len x]) (KeptIn S) (fun ys => ys.map (·.1) = List.range ((len + 1) / 2)) (fun _ => True) len w :=
  fun l J Jx W hW hA _ hY h0 =>
    chunk1_in n hn l B1 B2 S b off len cap hlen hcap J Jx (fun s W m hs => hA s W _ none hs (grownBy_drewN W m) (fun _ e => by cases e)) hY W ((hW.cell (World.block_lt_of_cell? w _ hB1)).trans hB1) ((hW.cell (World.block_lt_of_cell? w _ hB2)).trans hB2)
      l1 l2 h0
end Go.Proofs.YtgblkaoioeceiaaDoor
