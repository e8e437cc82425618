/- Package fetch: pieces, Cut. -/
import Derived.Test.YthlecmmngldodaaDoorF13
namespace Go.Proofs.YthlecmmngldodaaDoor
section
open Go.RowKit Go.Shelf

attribute [local go_sem] Oper.semAt_some

/-- A piece of 1024 bytes, or of fewer at the end. -/
abbrev Pb (len : Nat) := { k : Nat // 1024 * k < len }
def pbN (len k : Nat) : Nat := min 1024 (len - 1024 * k)
def pbV (b off len : Nat) (x : Pb len) : Value := .slice (some ⟨b, off + 1024 * x.1, none⟩) (pbN len x.1) (pbN len x.1)

theorem cells5 : Tryd.prog.cellsOf 5 = 1 := by kernel_rfl
theorem run_piece (b off len cap j : Nat) (hj : j ≤ cap) (w : World) :
    (Instr.slice 22 (.slice (some ⟨b, off, none⟩) len cap) none (some (.int .i64 (j : Int))) (some (.int .i64 (j : Int)))).run Tryd.prog w = .ok (.slice (some ⟨b, off, none⟩) j j) w := by
  obtain ⟨iE, hi'⟩ : ∃ i, Tryd.prog.info? 5 = some i := by
    cases h : Tryd.prog.info? 5 with
    | none => have := cells5; simp [Program.cellsOf, h] at this
    | some i => exact ⟨i, rfl⟩
  rw [run_slice_hm (P := Tryd.prog) w 22 _ len cap und22 .i64 .i64 (j : Int) (j : Int) (by omega) (by omega) (by omega), elem22, run_sizeOf w hi', cells5]
  simp only [Result.andThen_ok, sliced, Int.toNat_natCast, Option.map_some]
  split <;> simp [Addr.add]
theorem run_rest (b off len cap i : Nat) (hi : i ≤ len) (hc : len ≤ cap) :
    ∃ A', (∀ w, (Instr.slice 22 (.slice (some ⟨b, off, none⟩) len cap) (some (.int .i64 (i : Int))) none none).run Tryd.prog w = .ok (.slice A' (len - i) (cap - i)) w) ∧ (i < len → A' = some ⟨b, off + i, none⟩) := by
  obtain ⟨iE, hi'⟩ : ∃ i, Tryd.prog.info? 5 = some i := by
    cases h : Tryd.prog.info? 5 with
    | none => have := cells5; simp [Program.cellsOf, h] at this
    | some i => exact ⟨i, rfl⟩
  refine ⟨if cap = i then some ⟨b, off, none⟩ else some ((⟨b, off, none⟩ : Addr).add (i * 1)), fun w => ?_, fun h => ?_⟩
  · rw [run_slice_l (P := Tryd.prog) w 22 _ len cap und22 .i64 (i : Int) (by omega) (by omega), elem22, run_sizeOf w hi', cells5]
    simp only [Result.andThen_ok, sliced, Int.toNat_natCast, Option.map_some]
  · rw [if_neg (by omega), Nat.mul_one]
    unfold Addr.add; split <;> simp_all

theorem pieces_in (n : Nat) (A : Option Addr) (len cap : Nat) (w : World) :
    CallsIn Fence.wide n Tryd.prog 38 #[.slice A len cap] w fun e w' =>
      e = .returned (.func (.func 56) #[] #[.pointer (some ⟨w.heap.size, 0, none⟩)]) ∧
      w' = w.alloc (.cells #[.slice A len cap] 22) := by
  refine callsIn_of_wp Tryd.func38 rfl trivial ?_ rfl
  simp only [Tryd.ntmps38, List.size_toArray, List.length_cons, List.length_nil, Nat.reduceAdd, Nat.reduceSub, Array.replicate_succ, Array.replicate_zero, List.push_toArray, List.append_toArray, List.nil_append, List.cons_append]
  gi_wp2
  go_ret
  exact ⟨rfl, rfl⟩

set_option maxRecDepth 100000 in
set_option maxHeartbeats 1000000 in
theorem pieces1_in (n : Nat) (hn : 1 ≤ n) (l B1 : Nat) (S : Nat → Prop) (b off len cap : Nat) (hlen : len ≤ 1000000) (hcap : len ≤ cap) (h0len : 0 < len) (J : List (Pb len) → World → Prop)
    (hJB : ∀ s X u, J s X → J s (X.setCell ⟨B1, 0, none⟩ u))
    (hY : ∀ pre x X, J pre X → pre.length < len → YieldAt Fence.wide (n - 1) Tryd.prog l #[pbV b off len x] X fun e X' => e = .returned (.bool true) ∧ J (pre ++ [x]) X' ∧ KeptIn S X X')
    (W : World) (hB1 : Boxed W B1 22 (.slice (some ⟨b, off, none⟩) len cap)) (l1 : S B1) (h0 : J [] W) :
    CallsIn Fence.wide n Tryd.prog 56 #[.func (.yield l) #[] #[], .pointer (some ⟨B1, 0, none⟩)] W fun e W' => (∃ v, e = .returned v) ∧ ∃ ys : List (Pb len), ys.map (·.1) = List.range ((len + 1023) / 1024) ∧ J ys W' := by
  refine callsIn_of_wp Tryd.func56 rfl trivial ?_ rfl
  simp only [Tryd.ntmps56, List.size_toArray, List.length_cons, List.length_nil, Nat.reduceAdd, Nat.reduceSub, Array.replicate_succ, Array.replicate_zero, List.push_toArray, List.append_toArray, List.nil_append, List.cons_append]
  gi_wp2
  gi_loopw [3] (fun _ wr => ∃ (k : Nat) (pre : List (Pb len)) (A' : Option Addr) (c' : Nat), 1024 * k < len + 1024 ∧ pre.map (·.1) = List.range k ∧ J pre wr ∧ Boxed wr B1 22 (.slice A' (len - 1024 * k) c') ∧ (1024 * k < len → A' = some ⟨b, off + 1024 * k, none⟩ ∧ c' = cap - 1024 * k)) (fun _ wr => slLen ((wr.cell? ⟨B1, 0, none⟩).getD undef))
  case atStart => exact ⟨0, [], some ⟨b, off, none⟩, cap, by omega, rfl, h0, hB1, fun _ => ⟨rfl, rfl⟩⟩
  case round =>
    obtain ⟨k, pre, A', c', hk, hpre, hJs, hbx, hA⟩ := hrel
    have hpl : pre.length = k := by have := congrArg List.length hpre; simpa using this
    have c1 := hbx.cell
    clear hB1
    by_cases hlt : 1024 * k < len
    · obtain ⟨rfl, rfl⟩ := hA hlt
      have hp : (if ((len - 1024 * k : Nat) : Int) < 1024 then ((len - 1024 * k : Nat) : Int) else 1024) = ((pbN len k : Nat) : Int) := by unfold pbN; split <;> omega
      have hp1 : 1 ≤ pbN len k := by unfold pbN; omega
      have hp2 : pbN len k ≤ len - 1024 * k := by unfold pbN; omega
      have hp3 : len - 1024 * k - pbN len k = len - 1024 * (k + 1) := by unfold pbN; omega
      have hp4 : 1024 * (k + 1) < len → pbN len k = 1024 := by unfold pbN; omega
      obtain ⟨fn, tmps, assign, body, hy, hR⟩ := hY pre ⟨k, hlt⟩ wr hJs (by omega)
      unfold pbV at hy
      dsimp only at hy
      obtain ⟨A2, hrest, hA2⟩ := run_rest b (off + 1024 * k) (len - 1024 * k) (cap - 1024 * k) (pbN len k) hp2 (by omega)
      have hpc := fun w => run_piece b (off + 1024 * k) (len - 1024 * k) (cap - 1024 * k) (pbN len k) (by omega) w
      have hd0 : decide (0 < len - 1024 * k) = true := decide_eq_true (by omega)
      have hd1 : decide ((0 : Int) < ((len - 1024 * k : Nat) : Int)) = true := decide_eq_true (by omega)
      have Hp1 := Lib.hid hp1
      have Hp2 := Lib.hid hp2
      have Hp3 := Lib.hid hp3
      have Hp4 := Lib.hid hp4
      have HA2 := Lib.hid hA2
      have Hpre := Lib.hid hpre
      have Hbx := Lib.hid hbx
      clear hp hp1 hp2 hp3 hp4 hA2 hpre hbx hA
      rcases (by omega : len - 1024 * k ≤ 1024 ∨ 1024 < len - 1024 * k) with h1024 | h1024
      · have e : pbN len k = len - 1024 * k := by unfold pbN; omega
        have hm : decide (((len - 1024 * k : Nat) : Int) ≤ 1024) = true := decide_eq_true (by omega)
        have hm2 : ((len - 1024 * k : Nat) : Int) ≤ 1024 := by omega
        rw [e] at hy hrest hpc Hp1 Hp2 Hp3 Hp4 HA2
        clear e
        gi_wp2
        refine hR.mono ?_
        rintro e W3 ⟨rfl, hJ3, hk3⟩
        have hb3 := boxed_keptIn Hbx.out hk3 l1
        have c3 := hb3.cell
        have f3 := hb3.frozen
        have Hb3 := Lib.hid hb3
        have HJ3 := Lib.hid hJ3
        clear hb3 hJ3 hk3 c1
        gi_wp2
        have hl0 : len - 1024 * (k + 1) = 0 := by omega
        have hset := Hb3.out.set (.slice A2 0 (cap - 1024 * k - (len - 1024 * k)))
        refine ⟨⟨k + 1, pre ++ [⟨k, hlt⟩], A2, cap - 1024 * k - (len - 1024 * k), by omega, by rw [List.map_append, Hpre.out, List.range_succ]; rfl, hJB _ _ _ HJ3.out, by rw [hl0]; exact hset, fun h => by omega⟩, ?_⟩
        rw [hset.cell, Hbx.out.cell]
        simp only [Option.getD_some, slLen]
        omega
      · have e : pbN len k = 1024 := by unfold pbN; omega
        have hm : decide (((len - 1024 * k : Nat) : Int) ≤ 1024) = false := decide_eq_false (by omega)
        have hm2 : ¬ ((len - 1024 * k : Nat) : Int) ≤ 1024 := by omega
        rw [e] at hy hrest hpc Hp1 Hp2 Hp3 Hp4 HA2
        clear e
        simp only [Int.cast_ofNat_Int] at hrest hpc
        gi_wp2
        refine hR.mono ?_
        rintro e W3 ⟨rfl, hJ3, hk3⟩
        have hb3 := boxed_keptIn Hbx.out hk3 l1
        have c3 := hb3.cell
        have f3 := hb3.frozen
        have Hb3 := Lib.hid hb3
        have HJ3 := Lib.hid hJ3
        clear hb3 hJ3 hk3 c1
        gi_wp2
        have hset := Hb3.out.set (.slice A2 (len - 1024 * k - 1024) (cap - 1024 * k - 1024))
        refine ⟨⟨k + 1, pre ++ [⟨k, hlt⟩], A2, cap - 1024 * k - 1024, by omega, by rw [List.map_append, Hpre.out, List.range_succ]; rfl, hJB _ _ _ HJ3.out, by rw [← Hp3.out]; exact hset, fun h => ⟨by rw [HA2.out (by omega)]; congr 2, by omega⟩⟩, ?_⟩
        rw [hset.cell, Hbx.out.cell]
        simp only [Option.getD_some, slLen]
        omega
    · obtain rfl : k = (len + 1023) / 1024 := by omega
      have e0 : len - 1024 * ((len + 1023) / 1024) = 0 := by omega
      rw [e0] at c1
      clear hbx hA hpl
      gi_wp2
      go_end0
      exact ⟨⟨_, rfl⟩, pre, hpre, hJs⟩
end
end Go.Proofs.YthlecmmngldodaaDoor
