/- Lemmas of chapter 15's laws that later chapters use; the reference's SameBytes. -/
import Derived.Test.YthlecmmngldodaaDoorH8
import Derived.Laws.BytesArg
import Derived.Laws.BitsAllLaws
namespace Go.Proofs.YthlecmmngldodaaDoor
section
open Go.RowKit Go.Sort
def str (l : List UInt8) : ByteArray := ⟨l.toArray⟩
theorem str_inj {a b : List UInt8} (h : str a = str b) : a = b := by
  have := congrArg (fun x : ByteArray => x.data.toList) h
  simpa [str] using this
end
section
open Go.RowKit Go.Sort
theorem Rd.head1 {α : Type} {f : α → Value} {w : World} {n m : Nat} {A : Option Addr} {xs : List α} (h : Rd w 1 A n (xs.map f)) (hm : m ≤ n) : Rd w 1 A m ((xs.take m).map f) := by
  have hl := h.len1
  refine ⟨by simp; omega, by have := h.le; omega, fun hp => ?_⟩
  obtain ⟨b, off, e, hc⟩ := h.2.2 (by omega)
  refine ⟨b, off, e, fun j u hu => hc j u ?_⟩
  rw [List.getElem?_map] at hu ⊢
  rw [List.getElem?_take] at hu
  split at hu
  · exact hu
  · simp at hu

end
section
open Go.RowKit Go.Sort
theorem upL_getD (xs : List Sum32) (k : Nat) (h : k < (xs.length + 1) / 2) : (upL xs).getD k z32 = upAt xs k := by
  unfold upL
  rw [List.getD_eq_getElem?_getD, List.getElem?_map, List.getElem?_range h]
  rfl
theorem chk_proof : ∀ (m : Nat) (xs : List Sum32) (i : Nat), xs.length ≤ m → i < xs.length → chkL xs.length i (xs.getD i z32) (proofL xs i) = some (rootL xs)
  | 0, xs, i, h, hi => by omega
  | m + 1, xs, i, h, hi => by
    by_cases h1 : xs.length ≤ 1
    · obtain rfl : i = 0 := by omega
      rw [proofL_one xs 0 h1, chkL_one _ _ _ _ h1, if_pos rfl, rootL_one xs h1]
    · have hx := xor1_cases i
      have ih := chk_proof m (upL xs) (i / 2) (by rw [upL_length]; omega) (by rw [upL_length]; omega)
      rw [upL_length, upL_getD xs (i / 2) (by omega)] at ih
      rw [rootL_up xs (by omega), ← ih, proofL_up xs i (by omega)]
      by_cases hk : i ^^^ 1 < xs.length
      · rw [if_pos hk, List.cons_append, List.nil_append, chkL_cons _ _ _ _ _ (by omega) (by omega)]
        congr 1
        have hu : upAt xs (i / 2) = pairS (xs.getD (2 * (i / 2)) z32) (xs.getD (2 * (i / 2) + 1) z32) := by
          unfold upAt
          rw [if_pos (by split at hx <;> omega)]
        rw [hu]
        by_cases ho : i % 2 = 1
        · rw [if_neg (by omega)] at hx
          rw [if_pos ho, hx, show 2 * (i / 2) = i - 1 from by omega, show i - 1 + 1 = i from by omega]
        · rw [if_pos (by omega)] at hx
          rw [if_neg ho, hx, show 2 * (i / 2) = i from by omega]
      · rw [if_neg hk, List.nil_append, chkL_skip _ _ _ _ (by omega) (by omega)]
        congr 1
        unfold upAt
        split at hx
        · rw [if_neg (by omega), show 2 * (i / 2) = i from by omega]
        · omega
theorem proofL_length : ∀ (k : Nat) (xs : List Sum32) (i : Nat), xs.length ≤ 2 ^ k → (proofL xs i).length ≤ k
  | 0, xs, i, h => by rw [proofL_one xs i (by simpa using h)]; simp
  | k + 1, xs, i, h => by
    by_cases h1 : xs.length ≤ 1
    · rw [proofL_one xs i h1]; simp
    · rw [proofL_up xs i (by omega), List.length_append]
      have := proofL_length k (upL xs) (i / 2) (by rw [upL_length]; rw [Nat.pow_succ] at h; omega)
      split <;> simp <;> omega

end
section
open Go.RowKit Go.Sort
/-- The cut slices. -/
def Cut (w : World) (vs : List Sl) (cs : List (List UInt8)) : Prop := vs.length = cs.length ∧ ∀ (k : Nat) (v : Sl) (c : List UInt8), vs[k]? = some v → cs[k]? = some c → Rd w 1 v.a v.n (c.map byteV) ∧ v.n ≤ v.c
theorem Cut.snoc {w : World} {vs : List Sl} {cs : List (List UInt8)} (h : Cut w vs cs) {v : Sl} {c : List UInt8} (hr : Rd w 1 v.a v.n (c.map byteV)) (hc : v.n ≤ v.c) : Cut w (vs ++ [v]) (cs ++ [c]) := by
  refine ⟨by simp [h.1], fun k v' c' hv hc' => ?_⟩
  by_cases hk : k < vs.length
  · rw [List.getElem?_append_left hk] at hv
    rw [List.getElem?_append_left (by rw [← h.1]; exact hk)] at hc'
    exact h.2 k v' c' hv hc'
  · rw [List.getElem?_append_right (by omega)] at hv
    rw [List.getElem?_append_right (by rw [← h.1]; omega), ← h.1] at hc'
    have h0 : k - vs.length = 0 := by
      rcases Nat.eq_zero_or_pos (k - vs.length) with h0 | h0
      · exact h0
      · rw [List.getElem?_eq_none (by simp; omega)] at hv
        cases hv
    rw [h0] at hv hc'
    cases hv; cases hc'
    exact ⟨hr, hc⟩
theorem elem22 : Tryd.prog.elem 22 = 5 := by kernel_rfl
theorem und22 : Tryd.prog.underlying 22 = some (.slice (Tryd.prog.elem 22)) := by rw [elem22]; exact Tryd.underlying22
theorem run_bytes_head (a : Option Addr) (n c m : Nat) (hm : m ≤ c) (w : World) : (Instr.slice 22 (.slice a n c) none (some (.int .i64 (m : Int))) none).run Tryd.prog w = .ok (.slice a m c) w := by
  obtain ⟨iE, hi'⟩ : ∃ i, Tryd.prog.info? 5 = some i := by
    have := size22'
    unfold Program.cellsOf at this
    cases h : Tryd.prog.info? 5 with
    | none => simp [h] at this
    | some i => exact ⟨i, rfl⟩
  rw [run_slice_h (P := Tryd.prog) w 22 a n c und22 .i64 (m : Int) (by omega) (by omega), elem22, run_sizeOf w hi', size22']
  simp only [Result.andThen_ok, sliced, Int.toNat_natCast, Nat.zero_mul, Nat.sub_zero]
  have h0 : ∀ x : Addr, x.add 0 = x := fun x => by obtain ⟨b, o, s⟩ := x; unfold Addr.add; split <;> simp_all
  have : (if c = 0 then a else a.map fun x => x.add 0) = a := by
    split
    · rfl
    · cases a with
      | none => rfl
      | some x => simp [h0]
  rw [this]
theorem info22 : (Tryd.prog.info? 22).map (fun i => (i.zero, i.size, i.bytes)) = some (some (.slice none 0 0), 1, 24) := by kernel_rfl

end
section
open Go.RowKit Go.Sort
theorem und41b : (Tryd.prog.underlying 66).map (·.isRow) = some true := by kernel_rfl
theorem und41 : ∃ d, Tryd.prog.underlying 66 = some d ∧ d.isRow = true := by
  obtain ⟨d, h1, h2⟩ := Option.map_eq_some_iff.1 und41b
  exact ⟨d, h1, h2⟩
end
section
open Go.RowKit Go.Sort
theorem built32z : Tryd.prog.built 33 [] = some (sumC z32).toArray := by kernel_rfl
theorem wpQuiet_build0_g {P : Program} {ops : Array Oper} {rest : List Oper} {op : Oper} {a : Act} {C : World → Prop} {Q1 : Act → Prop} (hw : Region.wanted op (yielded ops a.tmps) = true) (t : TypeId) (ho : op.op = .build t #[])
    (Z : Array Value) (hZ : P.built t [] = some Z)
    (h : wpQuiet P ops C Q1 rest (a.put op.dst (.agg Z))) : wpQuiet P ops C Q1 (op :: rest) a := by
  unfold wpQuiet
  rw [if_pos hw]
  refine ⟨_, fun w hC => ?_, h⟩
  unfold Oper.quietAt execOp
  simp only [ho, Sem.run_bind]
  rw [show (Array.map (fun (x : Nat × Operand) => (x.fst, a.eval x.snd)) #[]) = #[] from by simp, run_build w t #[] Z hZ]
  exact ⟨rfl, rfl⟩

end
section
open Go.RowKit Go.Sort
/-- A read of an array that is known as a list, under a guard that holds. -/
theorem wpQuiet_load_mid_g {P : Program} {ops : Array Oper} {rest : List Oper} {op : Oper} {a : Act} {C : World → Prop} {Q1 : Act → Prop} (hw : Region.wanted op (yielded ops a.tmps) = true) (ty : TypeId) (x : Operand) (ho : op.op = .load ty x)
    (b o : Nat) (hx : a.eval x = .pointer (some ⟨b, o, none⟩)) (cs : List Value) (d : TypeDesc) (hS : ∀ w, C w → w.rangeAt b o cs)
    (hu : P.underlying ty = some d) (hd : d.isRow = true) (hi : (P.info? ty).map (·.size) = some cs.length)
    (h : wpQuiet P ops C Q1 rest (a.put op.dst (.agg cs.toArray))) : wpQuiet P ops C Q1 (op :: rest) a := by
  unfold wpQuiet
  rw [if_pos hw]
  refine ⟨_, fun w hC => ?_, h⟩
  unfold Oper.quietAt execOp
  simp only [ho, hx, Instr.loadAt, Instr.sureAddr, Sem.run_bind, Sem.run_pure, Result.andThen_ok, run_loadVar_mid w b o ty cs d (hS w hC) hu hd hi]
  exact ⟨rfl, rfl⟩
end
section
open Go.RowKit Go.Sort

theorem und22s : Tryd.prog.underlying 22 = some (.slice 5) := Tryd.underlying22
theorem und5s : Tryd.prog.underlying 5 = some (.int .u8) := by kernel_rfl
theorem und9s : Tryd.prog.underlying 9 = some .string := by kernel_rfl
theorem convert_bytes (A : Option Addr) (n c : Nat) (bs : List UInt8) (w : World) (hr : Rd w 1 A n (bs.map byteV)) : (convert 22 9 (.slice A n c)).run Tryd.prog w = .ok (.string (str bs)) w := by
  have hl := hr.len1
  by_cases hn : 0 < n
  · obtain ⟨b, off, rfl, hc⟩ := hr.2.2 hn
    rw [run_convert_bytes_arg w 22 5 und22s und5s b off n c (bs.map fun b => (b.toNat : Int)) (by rw [List.length_map, hl]) (fun i hi => ?_) 9 und9s]
    · congr 2
      unfold strOfNums str
      congr 2
      rw [List.map_map]
      conv => rhs; rw [← List.map_id bs]
      refine List.map_congr_left fun b _ => ?_
      simp
    · refine hc i _ ?_
      rw [List.getD_eq_getElem?_getD, List.getElem?_map, List.getElem?_map, List.getElem?_eq_getElem (by omega)]
      rfl
  · obtain rfl : n = 0 := by omega
    obtain rfl : bs = [] := List.eq_nil_of_length_eq_zero hl
    cases A with
    | none => exact run_convert_bytes_nil w 22 5 und22s und5s 0 c 9 und9s
    | some a =>
      rw [run_convert_bytes_string w 22 9 5 _ 0 c und22s und5s und9s, run_bytesToString w a 0 c [] (by simp [loadCells, loadCellsFrom])]
      rfl
theorem str_beq (a b : List UInt8) : ((str a).toList == (str b).toList) = decide (a = b) := by
  rw [ByteArray.toList_eq, ByteArray.toList_eq]
  simp only [str]
  exact Bool.eq_iff_iff.2 (by simp)

set_option maxHeartbeats 400000 in
theorem SameBytes_any (A B : Option Addr) (n m c d : Nat) (xs bs : List UInt8) (w : World) (ha : Rd w 1 A n (xs.map byteV)) (hb : Rd w 1 B m (bs.map byteV)) :
    Calls Tryd.prog 54 #[.slice A n c, .slice B m d] w fun e w' => e = .returned (.bool (decide (xs = bs))) ∧ ∃ k, w' = w.drewN k := by
  have h1 := convert_bytes A n c xs w ha
  have h2 := convert_bytes B m d bs w hb
  have h3 := str_beq xs bs
  go_enter Tryd.func54, Tryd.ntmps54
  go_wp2_with fail
  go_ret
  exact ⟨rfl, 0, rfl⟩
end
end Go.Proofs.YthlecmmngldodaaDoor
