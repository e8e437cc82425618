/- A slice of packets of one's own, and append onto it. -/
import Derived.Test.YteofgkdpknaapaaN32
namespace Go.Proofs.Yteofgkdpknaapaa
open Go.RowKit Go.Sort

/-- A slice of packets that is new since `base`. -/
def OwnP (w : World) (base : Nat) (v : Value) (n : Nat) (ps : List Pk) : Prop :=
  (∃ us : List Pv, AppZ w base 39 7 v n (us.flatMap pvC) ∧ PvsOk w us ps) ∧ ∀ g, v.ownBlock = some g → ∃ cur, Blk w g 39 cur
theorem OwnP.empty (w : World) {base : Nat} (hb : base ≤ w.heap.size) : OwnP (w.alloc (.cells #[] 39)) base (.slice (some ⟨w.heap.size, 0, none⟩) 0 0) 0 [] :=
  ⟨⟨[], AppZ.empty w hb _, PvsOk.nil _⟩, fun g e => ⟨#[], by simp only [Value.ownBlock, Option.some.injEq] at e; rw [← e]; exact Blk.new _ _ _⟩⟩
theorem OwnP.below {w w' : World} {base b n : Nat} {v : Value} {ps : List Pk} (h : OwnP w base v n ps) (hb : Below b w w') (hlt : w.heap.size ≤ b) : OwnP w' base v n ps := by
  obtain ⟨⟨us, h1, h2⟩, h3⟩ := h
  refine ⟨⟨us, h1.below hb hlt, h2.below (hb.mono hlt)⟩, fun g e => ?_⟩
  obtain ⟨cur, hc⟩ := h3 g e
  exact ⟨cur, hc.below hb (Nat.lt_of_lt_of_le hc.lt hlt)⟩
theorem OwnP.mono {w : World} {base base' n : Nat} {v : Value} {ps : List Pk} (h : OwnP w base v n ps) (hb : base' ≤ base) : OwnP w base' v n ps := by
  obtain ⟨⟨us, h1, h2⟩, h3⟩ := h
  exact ⟨⟨us, h1.mono hb, h2⟩, h3⟩
theorem OwnP.pks {w : World} {base n : Nat} {v : Value} {ps : List Pk} (h : OwnP w base v n ps) : ∃ A c, v = .slice A n c ∧ n ≤ c ∧ PksAt w A n ps := by
  obtain ⟨⟨us, h1, h2⟩, h3⟩ := h
  obtain ⟨A, c, rfl, hc, ht⟩ := h1.trd7
  exact ⟨A, c, rfl, hc, us, ht, h2⟩
/-- Blocks of other types stay. -/
def KeptT (w w' : World) : Prop := KeptIn (fun q => ∃ t cur, t ≠ 39 ∧ Blk w q t cur) w w'
theorem KeptT.blk {w w' : World} {b t : Nat} {cur : Array Value} (h : KeptT w w') (hb : Blk w b t cur) (ht : t ≠ 39) : Blk w' b t cur := hb.keptIn h ⟨t, cur, ht, hb⟩
theorem KeptT.pvs {w w' : World} {us : List Pv} {ps : List Pk} (h : KeptT w w') (hp : PvsOk w us ps) : PvsOk w' us ps :=
  hp.keptIn h (fun b cur hb => ⟨_, cur, by decide, hb⟩) (fun b cur hb => ⟨_, cur, by decide, hb⟩) fun b cur hb => ⟨_, cur, by decide, hb⟩
theorem KeptT.pv {w w' : World} {v : Pv} {p : Pk} (h : KeptT w w') (hp : PvOk w v p) : PvOk w' v p :=
  hp.keptIn h (fun b cur hb => ⟨_, cur, by decide, hb⟩) (fun b cur hb => ⟨_, cur, by decide, hb⟩) fun b cur hb => ⟨_, cur, by decide, hb⟩
theorem KeptT.refl (w : World) : KeptT w w := KeptIn.refl _ _
theorem run_ownp (w : World) (ty : TypeId) (base : Nat) (hbase : base ≤ w.heap.size) (v : Value) (n : Nat) (ps : List Pk) (h : OwnP w base v n ps) (B : Option Addr) (m d : Nat) (qs : List Pk) (hq : PksAt w B m qs) (hnm : n + m ≤ 100000) :
    ∃ v' w', (Builtin.append_ #[28, 28] ty #[v, .slice B m d]).run Try.prog w = .ok v' w' ∧ OwnP w' base v' (n + m) (ps ++ qs) ∧ Below base w w' ∧ KeptT w w' := by
  obtain ⟨i39, hi39, hz39, hs39, hy39⟩ := info_parts info39
  have hql := hq.len
  by_cases hm : m = 0
  · subst hm
    rw [List.length_eq_zero_iff] at hql
    subst hql
    obtain ⟨A, c, rfl, hc, _⟩ := h.pks
    exact ⟨_, _, run_append_zero w _ ty _ i39 Try.underlying28 hi39 _ _ _ _ _ hc, by rw [List.append_nil]; exact h, Below.refl _ _, KeptT.refl _⟩
  · obtain ⟨⟨us, h1, h2⟩, h3⟩ := h
    obtain ⟨zs, ht, hz⟩ := hq
    obtain ⟨v', w', hr, ha, hg⟩ := run_appz (P := Try.prog) w 28 ty 39 i39 _ 7 120 Try.underlying28 hi39 hz39 hs39 hy39 rfl (by omega) base hbase v n _ h1 B m d _ ht.1 (pvs_one _) (by unfold maxLen; omega) (by omega)
    have hk : KeptT w w' := KeptIn.grown (KeptIn.refl _ _) hg (fun q hq => by obtain ⟨t, cur, ht, hc⟩ := hq; exact hc.lt) (fun g e hq => by
      obtain ⟨t, cur, ht, hc⟩ := hq
      obtain ⟨cur', hc'⟩ := h3 g e
      exact hc.ne hc' ht rfl)
    refine ⟨v', w', hr, ⟨⟨us ++ zs, by rw [List.flatMap_append]; exact ha, (hk.pvs h2).app (hk.pvs hz)⟩, fun g e => ha.row (by omega) g e⟩, (Below.refl base w).grown hg hbase (fun g e => (h1.lt g e).1), hk⟩
theorem wpList_ownp {ops : Array Oper} {rest : List Oper} {o : Oper} {a : Act} {w : World} {Q : Exit → Act → World → Prop} (hg : o.guard = none) (s x : Operand) (hop : o.op = Op.call { callee := Callee.builtin Builtin.append, args := #[s, x], argTypes := #[28, 28] })
    (base : Nat) (hbase : base ≤ w.heap.size) (v : Value) (n : Nat) (ps : List Pk) (hv : a.eval s = v) (h : OwnP w base v n ps) (B : Option Addr) (m d : Nat) (qs : List Pk) (hx : a.eval x = .slice B m d) (hq : PksAt w B m qs) (hnm : n + m ≤ 100000)
    (hK : ∀ v' w', OwnP w' base v' (n + m) (ps ++ qs) → Below base w w' → KeptT w w' → wpList Try.prog ops Q rest (a.put o.dst v') w') : wpList Try.prog ops Q (o :: rest) a w := by
  refine wpList_plain hg fun K hK' => ?_
  obtain ⟨v', w', hr, h2, h3, h4⟩ := run_ownp w o.type base hbase v n ps h B m d qs hq hnm
  unfold Oper.wp execOp
  simp only [hop, resolve, invoke, builtin, Sem.run_bind, Sem.run_pure, Result.andThen_ok, List.map_toArray, List.map_cons, List.map_nil, hv, hx, hr]
  exact hK' _ _ (hK v' w' h2 h3 h4)
theorem val_ownp {o : Oper} {a : Act} {W : World} {Q : Exit → Act → World → Prop} {R : Value → World → Prop} (s x : Operand) (hop : o.op = Op.call { callee := Callee.builtin Builtin.append, args := #[s, x], argTypes := #[28, 28] })
    (base : Nat) (hbase : base ≤ W.heap.size) (v : Value) (n : Nat) (ps : List Pk) (hv : a.eval s = v) (h : OwnP W base v n ps) (B : Option Addr) (m d : Nat) (qs : List Pk) (hx : a.eval x = .slice B m d) (hq : PksAt W B m qs) (hnm : n + m ≤ 100000)
    (hK : ∀ v' w', OwnP w' base v' (n + m) (ps ++ qs) → Below base W w' → KeptT W w' → R v' w') : Val Try.prog Q o a W R := fun K hK' => by
  obtain ⟨v', w', hr, h2, h3, h4⟩ := run_ownp W o.type base hbase v n ps h B m d qs hq hnm
  unfold Oper.wp execOp
  simp only [hop, resolve, invoke, builtin, Sem.run_bind, Sem.run_pure, Result.andThen_ok, List.map_toArray, List.map_cons, List.map_nil, hv, hx, hr]
  exact hK' _ _ (hK v' w' h2 h3 h4)
theorem field30 (A : Option Addr) (n c : Nat) (w : World) : (Instr.field 30 (.agg #[.slice A n c]) 0).run Try.prog w = .ok (.slice A n c) w := by kernel_rfl
theorem alloc_setRow (w : World) (z cs : Array Value) (T : TypeId) : (w.alloc (.cells z T)).setRow w.heap.size cs = w.alloc (.cells cs T) := by
  rw [← World.alloc_eq, ← World.alloc_eq]
  unfold World.setRow
  congr 1
  refine Array.ext_getElem? fun i => ?_
  simp only [Array.getElem?_modify, Array.getElem?_push]
  by_cases h : w.heap.size = i
  · subst h
    simp
  · have h' : ¬ i = w.heap.size := fun e => h e.symm
    simp [h, h']
theorem run_field30_op {o : Oper} {a : Act} (x : Operand) (ho : o.op = .field 30 x 0) (A : Option Addr) (n c : Nat) (hx : a.eval x = .agg #[.slice A n c]) (W : World) : (execOp a.eval o).run Try.prog W = .ok (.value (.slice A n c)) W := by
  unfold execOp
  simp only [ho, Sem.run_bind, hx, field30, Result.andThen_ok, Sem.run_pure]
theorem wpList_min {P : Program} {ops : Array Oper} {rest : List Oper} {o : Oper} {a : Act} {w : World} {Q : Exit → Act → World → Prop} (hg : o.guard = none) (x y : Operand) (ts : Array TypeId) (ho : o.op = .call { callee := .builtin .min, args := #[x, y], argTypes := ts }) (m n k : Int) (hx : a.eval x = .int .i64 m) (hy : a.eval y = .int .i64 n) (hk : min m n = k)
    (h : wpList P ops Q rest (a.put o.dst (.int .i64 k)) w) : wpList P ops Q (o :: rest) a w := by
  refine wpList_plain hg fun K hK => ?_
  unfold Oper.wp execOp
  simp only [ho, resolve, invoke, builtin, List.map_toArray, List.map_cons, List.map_nil, hx, hy]
  simp [go_sem]
  rw [show (if n < m then n else m) = k by rw [← hk]; split <;> omega]
  exact hK _ _ h
theorem wpList_run {P : Program} {ops : Array Oper} {rest : List Oper} {o : Oper} {a : Act} {w : World} {Q : Exit → Act → World → Prop} (hg : o.guard = none) (v : Value) (hr : (execOp a.eval o).run P w = .ok (.value v) w)
    (h : wpList P ops Q rest (a.put o.dst v) w) : wpList P ops Q (o :: rest) a w := by
  refine wpList_plain hg fun K hK => ?_
  unfold Oper.wp
  rw [hr]
  exact hK _ _ h
theorem run_succ_op {P : Program} {o : Oper} {a : Act} (x : Operand) (ho : o.op = .binOp .add 3 x (.const (.int .i64 1)) 3) (k : Nat) (hk : k ≤ 100000) (hx : a.eval x = .int .i64 (k : Int)) (W : World) : (execOp a.eval o).run P W = .ok (.value (.int .i64 ((k + 1 : Nat) : Int))) W := by
  have hw : IntKind.i64.wrap ((k : Int) + 1) = (k : Int) + 1 := by rw [IntKind.wrap_i64]; omega
  have e : a.eval (.const (.int .i64 1)) = .int .i64 1 := rfl
  unfold execOp
  simp only [ho, hx, e]
  simp [go_sem, hw]
theorem MadeNet0_any (A : Option Addr) (n c : Nat) (xs : List Rw) (w : World) (h : RawsAt w A n xs) :
    Calls Try.prog 11 #[.slice A n c] w fun e w' => (∃ (A' : Option Addr) (N c' : Nat), e = .returned (.agg #[.slice A' N c']) ∧ N ≤ c' ∧ N ≤ 64 ∧ PksAt w' A' N ((xs.take 64).map madeP)) ∧ Below w.heap.size w w' := by
  refine (MadeNet_any A n c xs w h).mono ?_
  rintro e w' ⟨⟨A', c', rfl, h1, h2, -⟩, hb⟩
  exact ⟨⟨A', _, c', rfl, h1, by omega, h2⟩, hb⟩
theorem made_ok (xs : List Rw) (k : Nat) : ∀ x ∈ (xs.take k).map madeP, okP x ∧ validP x = true := fun x hx => by
  obtain ⟨y, _, rfl⟩ := List.mem_map.1 hx
  exact ⟨okP_of (madeP_valid y), madeP_valid y⟩
end Go.Proofs.Yteofgkdpknaapaa
