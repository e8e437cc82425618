/- Equality of secrets. -/
import Derived.Test.YtfdhiilhjfbehaaDoorS18
namespace Go.Proofs.YtfdhiilhjfbehaaDoor
open Go.RowKit Go.Sort

instance : DecidableEq Sc := fun a b => if h : a.s = b.s ∧ a.h = b.h ∧ a.n = b.n then isTrue (by
    obtain ⟨s, h1, n⟩ := a; obtain ⟨s', h', n'⟩ := b
    obtain ⟨rfl, rfl, rfl⟩ := h; rfl) else isFalse (fun e => h (by subst e; exact ⟨rfl, rfl, rfl⟩))
theorem fields28 : (Tryd.prog.fieldsOf 28).toList.map (fun f => (f.name == "_", f.type, f.offset)) = [(false, 26, 0), (false, 3, 32), (false, 3, 33)] := by kernel_rfl
theorem size26 (w : World) : (sizeOf 26).run Tryd.prog w = .ok 32 w := by
  obtain ⟨i, hi, _, hs, _⟩ := info_parts info32
  rw [run_sizeOf w hi, size32']
theorem part_seed (k : Sc) (w : World) : (part 26 (secV k).toArray 0).run Tryd.prog w = .ok (.agg (sumC k.s).toArray) w := by
  unfold part
  simp only [isAgg, Sem.run_bind, run_underlying und32, Result.andThen_ok, Sem.run_pure, if_true, size26]
  have : (secV k).toArray.extract 0 (0 + 32) = (sumC k.s).toArray := by
    unfold secV
    rw [List.extract_toArray]
    simp [List.extract_eq_take_drop, sumC_len]
  rw [this]
theorem part_h (k : Sc) (w : World) : (part 3 (secV k).toArray 32).run Tryd.prog w = .ok (.int .i64 k.h) w := by
  have h : (secV k).toArray[32]? = some (.int .i64 k.h) := by rw [List.getElem?_toArray]; exact sec_h k
  unfold part
  simp only [isAgg, Sem.run_bind, run_underlying und3i, Result.andThen_ok, Sem.run_pure, Bool.false_eq_true, if_false, h]
theorem part_n (k : Sc) (w : World) : (part 3 (secV k).toArray 33).run Tryd.prog w = .ok (.int .i64 k.n) w := by
  have h : (secV k).toArray[33]? = some (.int .i64 k.n) := by rw [List.getElem?_toArray]; exact sec_n k
  unfold part
  simp only [isAgg, Sem.run_bind, run_underlying und3i, Result.andThen_ok, Sem.run_pure, Bool.false_eq_true, if_false, h]
theorem eqIn_sum (x y : Sum32) (w : World) : (Op.equalIn 9999 26 (.agg (sumC x).toArray) (.agg (sumC y).toArray)).run Tryd.prog w = .ok (decide (x = y)) w := by
  rw [sumC_ints, sumC_ints, run_equalIn_arr w 9997 26 5 32 .u8 und32 (by kernel_rfl) (by kernel_rfl) _ _ (by rw [List.length_map]; exact x.2) (by rw [List.length_map]; exact y.2)]
  rw [show decide ((x.1.map fun b => (b.toNat : Int)) = (y.1.map fun b => (b.toNat : Int))) = decide (x = y) from decide_eq_decide.2 (ints_inj x y)]
theorem run_eql_sec (x y : Sc) (w : World) : (binOp .eql 28 (.agg (secV x).toArray) (.agg (secV y).toArray)).run Tryd.prog w = .ok (.bool (decide (x = y))) w := by
  have hf := fields28
  rw [run_eql_struct, run_equalIn_struct w 9999 28 _ _ (by kernel_rfl) (by kernel_rfl)]
  generalize (Tryd.prog.fieldsOf 28).toList = L at hf
  rcases L with _ | ⟨f1, _ | ⟨f2, _ | ⟨f3, _ | ⟨f4, L⟩⟩⟩⟩
  · simp at hf
  · simp at hf
  · simp at hf
  rotate_left
  · simp at hf
  simp only [List.map_cons, List.map_nil, List.cons.injEq, Prod.mk.injEq, beq_eq_false_iff_ne, ne_eq, and_true] at hf
  obtain ⟨⟨n1, t1, o1⟩, ⟨n2, t2, o2⟩, ⟨n3, t3, o3⟩⟩ := hf
  simp only [Op.eqFields, ne_eq, n1, n2, n3, not_false_eq_true, if_true, t1, t2, t3, o1, o2, o3, Sem.run_bind, part_seed, part_h, part_n, eqIn_sum, Result.andThen_ok, Sem.run_ite, run_equalIn_int w 9998 3 .i64 .i64 _ _ und3i, Sem.run_pure]
  by_cases h1 : x.s = y.s
  · by_cases h2 : x.h = y.h
    · by_cases h3 : x.n = y.n
      · have e : x = y := by cases x; cases y; simp_all
        simp [e]
      · have e : ¬ x = y := fun e => h3 (by rw [e])
        simp [h1, h2, h3, e]
    · have e : ¬ x = y := fun e => h2 (by rw [e])
      simp [h1, h2, e]
  · have e : ¬ x = y := fun e => h1 (by rw [e])
    simp [h1, e]
end Go.Proofs.YtfdhiilhjfbehaaDoor
