/- Package net: slices of packets; slices.Clone and slices.Delete of them. -/
import Derived.Test.YteofgkdpknaapaaN14
import Derived.Lib.SliceRun
namespace Go.Proofs.Yteofgkdpknaapaa
open Go.RowKit Go.Sort

/-- Where a slice of packets begins whose first i are taken off. -/
def dropK (A : Option Addr) (c i : Nat) : Option Addr := if c = i then A else A.map (·.add (i * 7))
theorem elem28 : Try.prog.elem 28 = 39 := by kernel_rfl
theorem und28 : Try.prog.underlying 28 = some (.slice (Try.prog.elem 28)) := by rw [elem28]; exact Try.underlying28
theorem cells39 : Try.prog.cellsOf 39 = 7 := by kernel_rfl
theorem dropK0 (A : Option Addr) (c : Nat) : dropK A c 0 = A := by
  unfold dropK
  split
  · rfl
  · cases A with
    | none => rfl
    | some a => rw [Option.map_some, Nat.zero_mul]; rfl
theorem run_pk_h (A : Option Addr) (n c i : Nat) (hi : i ≤ c) (w : World) : (Instr.slice 28 (.slice A n c) none (some (.int .i64 (i : Int))) none).run Try.prog w = .ok (.slice A i c) w := by
  obtain ⟨iE, hi', _⟩ := info_parts info39
  rw [run_slice_h (P := Try.prog) w 28 A n c und28 .i64 (i : Int) (by omega) (by omega), elem28, run_sizeOf w hi', cells39]
  have hA := dropK0 A c
  unfold dropK at hA
  simp only [Result.andThen_ok, sliced, Int.toNat_natCast]
  rw [hA, Nat.sub_zero, Nat.sub_zero]
theorem run_pk_l (A : Option Addr) (n c i : Nat) (hi : i ≤ n) (w : World) : (Instr.slice 28 (.slice A n c) (some (.int .i64 (i : Int))) none none).run Try.prog w = .ok (.slice (dropK A c i) (n - i) (c - i)) w := by
  obtain ⟨iE, hi', _⟩ := info_parts info39
  rw [run_slice_l (P := Try.prog) w 28 A n c und28 .i64 (i : Int) (by omega) (by omega), elem28, run_sizeOf w hi', cells39]
  simp only [Result.andThen_ok, sliced, Int.toNat_natCast, dropK]
theorem run_pk_lh (A : Option Addr) (n c i j : Nat) (hi : i ≤ j) (hj : j ≤ c) (w : World) : (Instr.slice 28 (.slice A n c) (some (.int .i64 (i : Int))) (some (.int .i64 (j : Int))) none).run Try.prog w = .ok (.slice (dropK A c i) (j - i) (c - i)) w := by
  obtain ⟨iE, hi', _⟩ := info_parts info39
  rw [run_slice_lh (P := Try.prog) w 28 A n c und28 .i64 .i64 (i : Int) (j : Int) (by omega) (by omega) (by omega), elem28, run_sizeOf w hi', cells39]
  simp only [Result.andThen_ok, sliced, Int.toNat_natCast, dropK]
theorem run_pk_lhm (A : Option Addr) (n c i j m : Nat) (hi : i ≤ j) (hj : j ≤ m) (hm : m ≤ c) (w : World) : (Instr.slice 28 (.slice A n c) (some (.int .i64 (i : Int))) (some (.int .i64 (j : Int))) (some (.int .i64 (m : Int)))).run Try.prog w = .ok (.slice (dropK A m i) (j - i) (m - i)) w := by
  obtain ⟨iE, hi', _⟩ := info_parts info39
  rw [run_slice_lhm (P := Try.prog) w 28 A n c und28 .i64 .i64 .i64 (i : Int) (j : Int) (m : Int) (by omega) (by omega) (by omega) (by omega), elem28, run_sizeOf w hi', cells39]
  simp only [Result.andThen_ok, sliced, Int.toNat_natCast, dropK]
theorem flat7 (xs : List Pv) : (xs.flatMap pvC).length = xs.length * 7 := flat_length pvC_len xs
theorem flat7_take (xs : List Pv) (i : Nat) : (xs.flatMap pvC).take (i * 7) = (xs.take i).flatMap pvC := by
  rcases Nat.lt_or_ge xs.length i with h | h
  · rw [List.take_of_length_le (by rw [flat7]; omega), List.take_of_length_le (by omega)]
  · conv => lhs; rw [← List.take_append_drop i xs, List.flatMap_append]
    rw [List.take_left' (by rw [flat7, List.length_take, Nat.min_eq_left h])]
theorem flat7_drop (xs : List Pv) (i : Nat) : (xs.flatMap pvC).drop (i * 7) = (xs.drop i).flatMap pvC := by
  rcases Nat.lt_or_ge xs.length i with h | h
  · rw [List.drop_of_length_le (by rw [flat7]; omega), List.drop_of_length_le (by omega)]
    rfl
  · conv => lhs; rw [← List.take_append_drop i xs, List.flatMap_append]
    rw [List.drop_left' (by rw [flat7, List.length_take, Nat.min_eq_left h])]
theorem trd_take {w : World} {A : Option Addr} {n i : Nat} {xs : List Pv} (h : TRd w 39 7 A n (xs.flatMap pvC)) (hi : i ≤ n) : TRd w 39 7 A i ((xs.take i).flatMap pvC) := by
  have hl := h.1.lenf pvC_len (by omega)
  refine ⟨⟨by rw [flat7, List.length_take]; omega, by have := h.1.le; omega, fun h0 => ?_⟩, fun h0 b off e => h.2 (by omega) b off e⟩
  obtain ⟨b, off, e, hc⟩ := h.1.2.2 (by omega)
  refine ⟨b, off, e, fun j u hj => hc j u ?_⟩
  rw [← flat7_take, List.getElem?_take] at hj
  split at hj
  · exact hj
  · cases hj
theorem trd_drop {w : World} {A : Option Addr} {n i c : Nat} {xs : List Pv} (h : TRd w 39 7 A n (xs.flatMap pvC)) (hi : i ≤ n) (hc : n ≤ c) : TRd w 39 7 (dropK A c i) (n - i) ((xs.drop i).flatMap pvC) := by
  have hl := h.1.lenf pvC_len (by omega)
  have hd : ∀ b off, 0 < n - i → A = some ⟨b, off, none⟩ → dropK A c i = some ⟨b, off + i * 7, none⟩ := fun b off h0 e => by
    unfold dropK
    rw [if_neg (by omega), e, Option.map_some]
    congr 1
    unfold Addr.add
    split <;> simp_all
  refine ⟨⟨by rw [flat7, List.length_drop]; omega, by have := h.1.le; omega, fun h0 => ?_⟩, fun h0 b off e => ?_⟩
  · obtain ⟨b, off, e, hk⟩ := h.1.2.2 (by omega)
    refine ⟨b, off + i * 7, hd b off h0 e, fun j u hj => ?_⟩
    rw [← flat7_drop, List.getElem?_drop] at hj
    have := hk (i * 7 + j) u hj
    rwa [← Nat.add_assoc] at this
  · obtain ⟨b', off', e', _⟩ := h.1.2.2 (by omega)
    rw [hd b' off' h0 e'] at e
    cases e
    exact h.2 (by omega) b off' e'
theorem PksAt.take {w : World} {A : Option Addr} {n i : Nat} {ps : List Pk} (h : PksAt w A n ps) (hi : i ≤ n) : PksAt w A i (ps.take i) := by
  obtain ⟨vs, a, b⟩ := h
  exact ⟨_, trd_take a hi, b.take i⟩
theorem PksAt.drop {w : World} {A : Option Addr} {n i c : Nat} {ps : List Pk} (h : PksAt w A n ps) (hi : i ≤ n) (hc : n ≤ c) : PksAt w (dropK A c i) (n - i) (ps.drop i) := by
  obtain ⟨vs, a, b⟩ := h
  exact ⟨_, trd_drop a hi hc, b.drop i⟩
theorem AppZ.trd7 {w : World} {base n : Nat} {v : Value} {xs : List Value} (h : AppZ w base 39 7 v n xs) : ∃ A c, v = .slice A n c ∧ n ≤ c ∧ TRd w 39 7 A n xs := by
  obtain ⟨A, c, rfl, hc, hr⟩ := h.rd
  refine ⟨A, c, rfl, hc, hr, fun h0 b off e => ?_⟩
  subst e
  exact h.row h0 b rfl
theorem run_pk_none (n c : Nat) (w : World) : (binOp BinOp.eql 28 (.slice none n c) (.slice none 0 0)).run Try.prog w = .ok (.bool true) w := by
  simp [binOp, go_sem, run_equal_slice_nil w 28 39 _ n c Try.underlying28]
theorem run_pk_some (a : Addr) (n c : Nat) (w : World) : (binOp BinOp.eql 28 (.slice (some a) n c) (.slice none 0 0)).run Try.prog w = .ok (.bool false) w := by
  simp [binOp, go_sem, run_equal_slice_nil w 28 39 _ n c Try.underlying28]
set_option maxRecDepth 100000 in
set_option maxHeartbeats 1000000 in
/-- slices.Clone of packets. -/
theorem PClone_any (A : Option Addr) (n c : Nat) (vs : List Pv) (w : World) (hr : Rd w 7 A n (vs.flatMap pvC)) (hn : n ≤ 100000) :
    Calls Try.prog 33 #[.slice A n c] w fun e w' => (∃ v', e = .returned v' ∧ AppZ w' w.heap.size 39 7 v' n (vs.flatMap pvC)) ∧ Below w.heap.size w w' := by
  obtain ⟨i39, hi39, hz39, hs39, hy39⟩ := info_parts info39
  have hl := hr.lenf pvC_len (by omega)
  cases A with
  | none =>
    have h0 : n = 0 := by
      rcases Nat.eq_zero_or_pos n with h | h
      · exact h
      · obtain ⟨b, off, e, _⟩ := hr.2.2 h
        simp at e
    subst h0
    have hb : vs = [] := List.eq_nil_of_length_eq_zero (by omega)
    subst hb
    clear hr
    have hq := run_pk_none 0 c
    go_enter Try.func33, Try.ntmps33
    go_wp2_with fail
    exact bodyPost_ret (results_tmp rfl _ _ _) rfl ⟨⟨_, rfl, AppZ.nil _⟩, Below.refl _ _⟩
  | some a =>
    have Hr := Lib.hid hr
    clear hr
    have hq := run_pk_some a n c
    have hlt : w.heap.size < (w.alloc (.cells #[] 39)).heap.size := (Blk.new w 39 #[]).lt
    have hba := Lib.hid ((Below.refl w.heap.size w).alloc (Nat.le_refl _) (.cells #[] 39))
    go_enter Try.func33, Try.ntmps33
    go_wp2_with (at_builtin; refine wpList_appz rfl (.tmp 5) (.tmp 6) 28 rfl 39 i39 _ 7 120 Try.underlying28 hi39 hz39 hs39 hy39 rfl (by omega) w.heap.size (Nat.le_of_lt hlt) (.slice (some ⟨w.heap.size, 0, none⟩) 0 0) 0 [] rfl (.inl ⟨rfl, rfl, _, rfl, Nat.le_refl _, hlt⟩) (some a) n c (vs.flatMap pvC) rfl (Hr.out.alloc _) (pvs_one _) (by unfold maxLen; omega) (by omega) ?_; intro v6 w6 happ6 hg6)
    rw [Nat.zero_add, List.nil_append] at happ6
    refine bodyPost_ret (results_tmp rfl _ _ _) rfl ⟨⟨v6, rfl, happ6⟩, ?_⟩
    exact hba.out.grown hg6 (Nat.le_of_lt hlt) (fun k ek => by simp only [Value.ownBlock, Option.some.injEq] at ek; omega)
/-- append where there is room, to a block of its own. -/
theorem val_room {P : Program} {Q : Exit → Act → World → Prop} {o : Oper} {a : Act} {W : World} {R : Value → World → Prop} (s x : Operand) (t : TypeId) (hop : o.op = Op.call { callee := Callee.builtin Builtin.append, args := #[s, x], argTypes := #[t, t] })
    (e : TypeId) (i : TypeInfo) (ht : P.underlying t = some (.slice e)) (hi : P.info? e = some i) (g n cap : Nat) (cur : Array Value) (hg : W.heap[g]? = some (.cells cur e (0, 0))) (hs : a.eval s = .slice (some ⟨g, 0, none⟩) n cap)
    (A : Addr) (m c : Nat) (news : List Value) (hx : a.eval x = .slice (some A) m c) (hl : news.length = m * i.size) (hn : ∀ j u, news[j]? = some u → W.cell? (A.add j) = some u) (h1 : ∀ u ∈ news, u.oneCell' = true) (hroom : n + m ≤ cap) (hfit : n * i.size + news.length ≤ cur.size)
    (hR : R (.slice (some ⟨g, 0, none⟩) (n + m) cap) (W.setRow g (cur.toList.take (n * i.size) ++ news ++ cur.toList.drop (n * i.size + news.length)).toArray)) : Val P Q o a W R := fun K hK => by
  have hrun := run_append_room (P := P) W t o.type e i ht hi g n cap cur hg A m c news hl hn h1 hroom hfit
  unfold Oper.wp
  rw [List.append_assoc] at hR
  simp [execOp, hop, resolve, invoke, builtin, hs, hx, hrun, Result.andThen]
  exact hK _ _ hR
/-- clear of one packet. -/
theorem run_clear_pk (w : World) (ty : TypeId) (g o c : Nat) (cur : Array Value) (hg : w.heap[g]? = some (.cells cur 39 (0, 0))) (hf : o + 7 ≤ cur.size) :
    (Builtin.clear_ #[28] ty #[.slice (some ⟨g, o, none⟩) 1 c]).run Try.prog w = .ok (.tuple #[]) (w.setRow g (cur.toList.take o ++ pvC pv0 ++ cur.toList.drop (o + 7)).toArray) := by
  obtain ⟨i39, hi39, hz39, hs39, hy39⟩ := info_parts info39
  have hzv : ∀ w, (zeroValue 39).run Try.prog w = .ok (.agg (pvC pv0).toArray) w := fun w => by
    unfold zeroValue
    simp [Sem.run_bind, typeInfo, hi39, hz39]
  have hzc : (Builtin.zeroCells (Value.agg (pvC pv0).toArray).cells 1).toList = pvC pv0 := by kernel_rfl
  have hst := run_storeCells_at Try.prog g o 39 (pvC pv0) 0 cur w hg (by rw [pvC_len]; omega) (pv_one _)
  simp only [Nat.add_zero, pvC_len] at hst
  simp [Builtin.clear_, run_underlying Try.underlying28, hzv, hzc, hst]
/-- A slice of packets is cut, as one operation. -/
theorem run_slice_op {o : Oper} {a : Act} (x : Operand) (lo hi mx : Option Operand) (ho : o.op = .slice 28 x lo hi mx) (u : Value) (W : World) (hr : (Instr.slice 28 (a.eval x) (lo.map a.eval) (hi.map a.eval) (mx.map a.eval)).run Try.prog W = .ok u W) : (execOp a.eval o).run Try.prog W = .ok (.value u) W := by
  unfold execOp
  simp only [ho, Sem.run_bind, run_sliceAt_slice W _ _ _ _ _ und28, hr, Result.andThen_ok, Sem.run_pure]
theorem erase7 {vs : List Pv} {cur : Array Value} {n i : Nat} (hi : i < n) (hl : vs.length = n) (ht : cur.toList.take (n * 7) = vs.flatMap pvC) :
    (cur.toList.take (i * 7) ++ (vs.drop (i + 1)).flatMap pvC ++ cur.toList.drop (i * 7 + ((vs.drop (i + 1)).flatMap pvC).length)).take ((n - 1) * 7) = (vs.eraseIdx i).flatMap pvC := by
  have h1 : cur.toList.take (i * 7) = (vs.take i).flatMap pvC := by
    rw [← flat7_take, ← ht, List.take_take, Nat.min_eq_left (by omega)]
  rw [h1, List.eraseIdx_eq_take_drop_succ, List.flatMap_append]
  rw [List.take_left' (by rw [List.length_append, flat7, flat7, List.length_take, List.length_drop, hl]; omega)]
set_option maxRecDepth 100000 in
set_option maxHeartbeats 1000000 in
/-- slices.Delete of one packet, out of a slice that the caller owns. -/
theorem PDelete_any (base : Nat) (v : Value) (n i : Nat) (vs : List Pv) (w : World) (h : AppZ w base 39 7 v n (vs.flatMap pvC)) (hi : i < n) (hn : n ≤ 100000) (hbw : base ≤ w.heap.size) :
    Calls Try.prog 50 #[v, .int .i64 (i : Int), .int .i64 ((i : Int) + 1)] w fun e w' => (∃ A c, e = .returned (.slice A (n - 1) c) ∧ n - 1 ≤ c ∧ TRd w' 39 7 A (n - 1) ((vs.eraseIdx i).flatMap pvC) ∧ ∀ b off, A = some ⟨b, off, none⟩ → base ≤ b) ∧ SB 39 base w w' := by
  obtain ⟨i39, hi39, hz39, hs39, hy39⟩ := info_parts info39
  have hvl : vs.length = n := by obtain ⟨A, c, _, _, hr⟩ := h.rd; exact hr.lenf pvC_len (by omega)
  rcases h with ⟨h0, _⟩ | ⟨_, ⟨_, h0⟩ | ⟨g, cap, cur, rfl, hbg, hg, hnc, hcm, hcs, hct⟩⟩
  · omega
  · omega
  have hgl : g < w.heap.size := (Array.getElem?_eq_some_iff.1 hg).1
  obtain ⟨news, hnews⟩ : ∃ q, q = (vs.drop (i + 1)).flatMap pvC := ⟨_, rfl⟩
  have hnl : news.length = (n - (i + 1)) * 7 := by rw [hnews, flat7, List.length_drop, hvl]
  obtain ⟨cur1, hcur1⟩ : ∃ q, q = (cur.toList.take (i * 7) ++ news ++ cur.toList.drop (i * 7 + news.length)).toArray := ⟨_, rfl⟩
  obtain ⟨w1, hw1⟩ : ∃ q, q = w.drew.setRow g cur1 := ⟨_, rfl⟩
  have hg1 : Blk w1 g 39 cur1 := by rw [hw1]; exact setRow_heap _ _ _ _ _ _ hg
  have hs1 : cur1.size = cap * 7 := by
    rw [hcur1, List.size_toArray, List.length_append, List.length_append, List.length_take, List.length_drop, Array.length_toList, hcs, hnl]
    omega
  have hk1 : KeptIn (fun q => q ≠ g ∧ q < w.heap.size) w w1 := by
    rw [hw1]
    exact KeptIn.trans (KeptIn.of_below ((Below.refl w.heap.size w).drew) fun q hq => hq.2) ((KeptIn.refl (fun q => q ≠ g ∧ q < w.heap.size) w.drew).setRow (g := g) (fun h => h.1 rfl) _)
  obtain ⟨cur2, hcur2⟩ : ∃ q, q = (cur1.toList.take ((n - 1) * 7) ++ pvC pv0 ++ cur1.toList.drop ((n - 1) * 7 + 7)).toArray := ⟨_, rfl⟩
  obtain ⟨w2, hw2⟩ : ∃ q, q = w1.setRow g cur2 := ⟨_, rfl⟩
  have hg2 : Blk w2 g 39 cur2 := by rw [hw2]; exact setRow_heap _ _ _ _ _ _ hg1
  have hk2 : KeptIn (fun q => q ≠ g) w1 w2 := by rw [hw2]; exact (KeptIn.refl (fun q => q ≠ g) w1).setRow (g := g) (fun h => h rfl) _
  have hcl : ∀ ty, (Builtin.clear_ #[28] ty #[.slice (some ⟨g, (n - 1) * 7, none⟩) 1 (cap - (n - 1))]).run Try.prog w1 = .ok (.tuple #[]) w2 := fun ty => by
    rw [run_clear_pk w1 ty g ((n - 1) * 7) (cap - (n - 1)) cur1 hg1 (by omega), hw2, hcur2]
  have hsl1 := run_pk_lhm (some ⟨g, 0, none⟩) n cap i (i + 1) n (by omega) (by omega) hnc
  have hsl2 := run_pk_h (some ⟨g, 0, none⟩) n cap i (by omega)
  have hsl3 := run_pk_l (some ⟨g, 0, none⟩) n cap (i + 1) (by omega)
  have hsl4 := run_pk_lh (some ⟨g, 0, none⟩) (n - 1) cap (n - 1) n (by omega) hnc
  have hsz1 : (cur1.toList.take ((n - 1) * 7)) = (vs.eraseIdx i).flatMap pvC := by
    have := erase7 (cur := cur) hi hvl hct
    rw [← hnews] at this
    rw [hcur1]
    exact this
  have hr2 : TRd w2 39 7 (some ⟨g, 0, none⟩) (n - 1) ((vs.eraseIdx i).flatMap pvC) := by
    refine ⟨⟨by rw [flat7, List.length_eraseIdx, hvl, if_pos hi], by omega, fun h0 => ⟨g, 0, rfl, fun j u hu => ?_⟩⟩, fun h0 b off e => ?_⟩
    · have hj : j < (n - 1) * 7 := by
        have := (List.getElem?_eq_some_iff.1 hu).1
        rwa [flat7, List.length_eraseIdx, hvl, if_pos hi] at this
      rw [Nat.zero_add, hg2.cell, hcur2, List.getElem?_toArray, List.append_assoc, List.getElem?_append_left (by rw [hsz1, flat7, List.length_eraseIdx, hvl, if_pos hi]; exact hj), hsz1]
      exact hu
    · cases e
      exact ⟨_, hg2⟩
  have hsb : SB 39 base w w2 := by
    have h : KeptIn (fun q => q ≠ g ∧ q < w.heap.size) w w2 := hk1.trans (hk2.mono fun q hq => hq.1)
    refine h.mono fun q hq => ⟨fun e => ?_, sb_lt hbw hq⟩
    subst e
    rcases hq with hq | ⟨t, cs, ht, hB⟩
    · omega
    · have : (some (Obj.cells cs t (0, 0)) : Option Obj) = some (Obj.cells cur 39 (0, 0)) := hB.symm.trans hg
      cases this
      exact ht rfl
  obtain ⟨A3, hA3⟩ : ∃ q : Addr, dropK (some ⟨g, 0, none⟩) cap (i + 1) = some q ∧ (0 < n - (i + 1) → q = ⟨g, (i + 1) * 7, none⟩) := by
    unfold dropK
    split
    · exact ⟨_, rfl, fun h => by omega⟩
    · refine ⟨_, rfl, fun _ => ?_⟩
      unfold Addr.add
      split <;> simp_all
  have hA4 : dropK (some ⟨g, 0, none⟩) cap (n - 1) = some ⟨g, (n - 1) * 7, none⟩ := by
    unfold dropK
    rw [if_neg (by omega), Option.map_some]
    congr 1
    unfold Addr.add
    split <;> simp_all
  rw [hA3.1] at hsl3
  rw [hA4, show n - (n - 1) = 1 by omega] at hsl4
  have hsrc : ∀ j u, news[j]? = some u → w.drew.cell? (A3.add j) = some u := fun j u hj => by
    have hjl := (List.getElem?_eq_some_iff.1 hj).1
    rw [hnl] at hjl
    rw [hA3.2 (by omega), Addr.add_lit]
    have hc : w.cell? ⟨g, (i + 1) * 7 + j, none⟩ = some u := by
      rw [Blk.cell (W := w) (t := 39) (cs := cur) hg]
      rw [hnews, ← flat7_drop, ← hct, List.getElem?_drop, List.getElem?_take] at hj
      split at hj
      · rw [← Array.getElem?_toList]; exact hj
      · cases hj
    exact hc
  have hone : ∀ u ∈ news, u.oneCell' = true := by rw [hnews]; exact pvs_one _
  have hn1 : ((i : Int) + 1 : Int) = ((i + 1 : Nat) : Int) := by push_cast; rfl
  have Hres := Lib.hid (show (∃ A c, Ending.returned (.slice (some ⟨g, 0, none⟩) (n - 1) cap) = .returned (.slice A (n - 1) c) ∧ n - 1 ≤ c ∧ TRd w2 39 7 A (n - 1) ((vs.eraseIdx i).flatMap pvC) ∧ ∀ b off, A = some ⟨b, off, none⟩ → base ≤ b) ∧ SB 39 base w w2 from ⟨⟨_, _, rfl, by omega, hr2, fun b off e => by cases e; exact hbg⟩, hsb⟩)
  have Hg := Lib.hid hg
  have Hsrc := Lib.hid hsrc
  have Hone := Lib.hid hone
  have HW1 := Lib.hid hw1
  have Hcur1 := Lib.hid hcur1
  have Hnl := Lib.hid hnl
  have Hcs := Lib.hid hcs
  have Hsl2 := Lib.hid hsl2
  have Hsl3 := Lib.hid hsl3
  clear hr2 hsb hsz1 hg hsrc hone hw1 hcur1 hnl hcs hnews hct hk1 hk2 hg1 hs1 hg2 hw2 hcur2 hsl2 hsl3 hA3 hA4
  rw [hn1]
  clear hn1
  go_enter Try.func50, Try.ntmps50
  go_upto_region 5 with fail
  have hst : (fun _ : World => True) w.drew := trivial
  refine wp_region_reads_tailN (S := fun _ : World => True) 7 [0, 1, 2, 3, 4, 5] 1 (by kernel_rfl) (List.take_append_drop _ _) rfl (by kernel_rfl) (by kernel_rfl) (by kernel_rfl) (by decide) (by kernel_rfl) (by kernel_rfl) (fun _ _ d _ _ h => by cases d <;> exact h) (by kernel_rfl) (by kernel_rfl) rfl hst ?_
  refine wpQuiet_val rfl (.slice (some ⟨g, 0, none⟩) n cap) (fun W hW => by first | rfl | simp [execOp, go_sem]) ?_
  simp only [Act.put, List.setIfInBounds_toArray, List.set_cons_succ, List.set_cons_zero]
  refine wpQuiet_val rfl (.int .i64 (i : Int)) (fun W hW => by first | rfl | simp [execOp, go_sem]) ?_
  simp only [Act.put, List.setIfInBounds_toArray, List.set_cons_succ, List.set_cons_zero]
  refine wpQuiet_val rfl (.slice (some ⟨g, 0, none⟩) i cap) (fun W hW => run_slice_op (.tmp 20) none (some (.tmp 21)) none rfl _ W (Hsl2.out W)) ?_
  simp only [Act.put, List.setIfInBounds_toArray, List.set_cons_succ, List.set_cons_zero]
  refine wpQuiet_val rfl (.slice (some ⟨g, 0, none⟩) n cap) (fun W hW => by first | rfl | simp [execOp, go_sem]) ?_
  simp only [Act.put, List.setIfInBounds_toArray, List.set_cons_succ, List.set_cons_zero]
  refine wpQuiet_val rfl (.int .i64 ((i + 1 : Nat) : Int)) (fun W hW => by first | rfl | simp [execOp, go_sem]) ?_
  simp only [Act.put, List.setIfInBounds_toArray, List.set_cons_succ, List.set_cons_zero]
  refine wpQuiet_val rfl (.slice (some A3) (n - (i + 1)) (cap - (i + 1))) (fun W hW => run_slice_op (.tmp 23) (some (.tmp 24)) none none rfl _ W (Hsl3.out W)) ?_
  simp only [Act.put, List.setIfInBounds_toArray, List.set_cons_succ, List.set_cons_zero]
  refine wpQuiet_nil ?_
  refine wpAnyH_val (i := 6) (by kernel_rfl) (by rfl) (by rfl) ?_
  refine val_room (.tmp 22) (.tmp 25) 28 rfl 39 i39 Try.underlying28 hi39 g i cap cur Hg.out rfl A3 (n - (i + 1)) (cap - (i + 1)) news rfl (by rw [hs39]; exact Hnl.out) Hsrc.out Hone.out (by omega) (by rw [hs39, Hnl.out, Hcs.out]; omega) ?_
  rw [hs39, ← Hcur1.out, ← HW1.out, show i + (n - (i + 1)) = n - 1 by omega]
  refine ⟨trivial, ?_⟩
  simp only [Act.put, List.setIfInBounds_toArray, List.set_cons_succ, List.set_cons_zero]
  refine wpAnyH_done (by kernel_rfl) ?_
  clear Hg Hsrc Hone HW1 Hcur1 Hnl Hcs
  go_wp2_with fail
  obtain ⟨⟨A, c, e1, e2, e3⟩, e4⟩ := Hres.out
  go_ret
  exact ⟨⟨A, c, e1, by omega, e3⟩, e4⟩
end Go.Proofs.Yteofgkdpknaapaa
