/- Rounds of a range over a function, walked plainly; a function that enters such ranges many times. -/
import Derived.Test.YtfdhiilhjfbehaaDoorS5
namespace Go.Proofs.YtfdhiilhjfbehaaDoor
open Go Go.RowKit Go.Sort
section
theorem round_list {l n : Nat} {P : Program} {ops : Array Oper} {Q : Exit → Act → World → Prop} (hout : ¬ LetsOut Q) : ∀ (rest : List Oper) (a : Act) (w : World), noDefer rest = true → wpList P ops Q rest a w → wpListIn (Fence.wide.inRound l) n P ops Q rest a w
  | [], _, _, _, h => h
  | o :: rest, a, w, hd, h => by
    have hd1 : ∀ c, o.op ≠ .defer c := fun c e => by
      unfold noDefer at hd
      rw [List.all_cons, Bool.and_eq_true] at hd
      rw [e] at hd
      cases hd.1
    have hd2 : noDefer rest = true := by
      unfold noDefer at hd ⊢
      rw [List.all_cons, Bool.and_eq_true] at hd
      exact hd.2
    unfold wpListIn
    unfold wpList at h
    split
    · next hw =>
      rw [if_pos hw] at h
      exact Oper.wpIn_mono (fun a' w' h => round_list hout rest a' w' hd2 h) (oper_inRound hd1 hout h)
    · next hw =>
      rw [if_neg hw] at h
      exact ⟨fun _ _ => trivial, round_list hout rest _ _ hd2 h⟩
/-- A region in the text's order, in a round. -/
theorem round_region_text {lp m id : Nat} {P : Program} {l : List Oper} {Q : Exit → Act → World → Prop} {a : Act} {w : World} (hd : noDefer l = true) (hout : ¬ LetsOut Q) (h : wpList P l.toArray Q l a w) : (Code.region id l.toArray false).wpIn (Fence.wide.inRound lp) m P Q a w :=
  wpIn_region_lit (round_list hout l a w hd h)
/-- A region that draws its order, in a round: the reads first, then one after the other; the worlds that are met lie in a class. -/
theorem round_region_reads {lp m id : Nat} {P : Program} {Q : Exit → Act → World → Prop} {a : Act} {w : World} {l : List Oper} (S : World → Prop) (is1 : List Nat) (fuel : Nat) (hm : P.follows .mixedOrders = true) (hd : noDefer l = true) (hout : ¬ LetsOut Q)
    (hs : Region.noSelect l.toArray = true) (hQ : ∀ c a d v w, Q (.panic c) (Act.put a d v) w → Q (.panic c) a w) (hS : S w.drew)
    (hB1 : orderB .any l.toArray is1 (Array.replicate l.length false) = true) (hp : (pickOps l is1).all plainOp = true) (hlen : is1.length + fuel = l.length)
    (h : wpQuiet P l.toArray S (fun a1 => wpAnyH P .any l.toArray Q S fuel (setAll (Array.replicate l.length false) is1) a1 w.drew) (pickOps l is1) a) :
    (Code.region id l.toArray true).wpIn (Fence.wide.inRound lp) m P Q a w := by
  refine round_region_any hm hd hout ?_
  have key := wpAnyH_reads hs hQ is1 (Array.replicate l.length false) a w.drew hS hB1 hp h
  rw [hlen] at key
  exact wpAny_of_held _ _ _ _ key
/-- The marks that ranges over functions have left. -/
def MarksOk : List Deferred → World → Prop
  | [], _ => True
  | d :: ds, W => ∃ D, d = { target := .collected D, args := #[] } ∧ W.heap[D]? = some (.deferred (some [])) ∧ (∀ d' ∈ ds, d'.target ≠ .collected D) ∧ MarksOk ds W
def offMarks (ds : List Deferred) (b : Nat) : Prop := ∀ d ∈ ds, d.target ≠ .collected b
theorem MarksOk.keptIn {S : Nat → Prop} {W W' : World} (hk : KeptIn S W W') : ∀ {ds : List Deferred}, MarksOk ds W → (∀ D, W.heap[D]? = some (.deferred (some [])) → S D) → MarksOk ds W'
  | [], _, _ => trivial
  | _ :: _, ⟨D, h1, h2, h3, h4⟩, hS => ⟨D, h1, (hk.block D (hS D h2)).trans h2, h3, MarksOk.keptIn hk h4 hS⟩
theorem MarksOk.new {W : World} {ds : List Deferred} {D B : Nat} (h : MarksOk ds W) (hD : W.heap[D]? = some (.deferred (some []))) (hlt : ∀ d ∈ ds, ∀ b, d.target = .collected b → b < B) (hB : B ≤ D) : MarksOk ({ target := .collected D, args := #[] } :: ds) W :=
  ⟨D, rfl, hD, fun d hd e => by have := hlt d hd D e; omega, h⟩
theorem KeptIn.weaken {S T : Nat → Prop} {W W' : World} (h : KeptIn S W W') (hi : ∀ b, T b → S b) : KeptIn T W W' := ⟨h.os, h.tape, h.output, h.size, fun k hk => h.block k (hi k hk)⟩
theorem MarksOk.off {S : Nat → Prop} {W W' : World} (hk : KeptIn S W W') : ∀ {ds : List Deferred}, MarksOk ds W → (∀ d ∈ ds, ∀ b, d.target = .collected b → S b) → MarksOk ds W'
  | [], _, _ => trivial
  | d :: ds, ⟨D, h1, h2, h3, h4⟩, hS => ⟨D, h1, (hk.block D (hS d (by simp) D (by rw [h1]))).trans h2, h3, MarksOk.off hk h4 (fun d' hd' b e => hS d' (by simp [hd']) b e)⟩
theorem leaves_marks {F : Fence} {n : Nat} {P : Program} {fn : Func} {tmps : Array Value} {R : Ending → World → Prop} : ∀ (ds : List Deferred) (W : World), MarksOk ds W → (∀ W', KeptIn (offMarks ds) W W' → LeavesIn F n P fn tmps R [] .returning W') → LeavesInM F n P fn tmps R ds .returning W
  | [], W, _, h => h W (KeptIn.refl _ _)
  | d :: ds, W, ⟨D, h1, h2, h3, h4⟩, h => by
    subst h1
    have hlt := (Array.getElem?_eq_some_iff.1 h2).1
    have hg := grownBy_putObj' W D (.deferred none)
    have hk : KeptIn (fun b => b ≠ D) W (W.putObj D (.deferred none)) := ⟨hg.os, hg.tape, hg.output, hg.size, fun k hk => by
      by_cases e : k < W.heap.size
      · exact hg.block k e (fun e2 => hk (by cases e2; rfl))
      · rw [Array.getElem?_eq_none (by rw [World.putObj_size]; omega), Array.getElem?_eq_none (by omega)]⟩
    refine ⟨by simp, .inl ⟨D, _, rfl, run_takeDeferred h2, ?_⟩⟩
    refine leaves_marks ds _ ?_ fun W' hW' => h W' ?_
    · refine h4.off hk (fun d' hd' b e => ?_)
      rintro rfl
      exact h3 d' hd' e
    · exact (hk.weaken (fun b hb e => hb { target := .collected D, args := #[] } (List.mem_cons_self ..) (by rw [e]))).trans (hW'.weaken (fun b hb d' hd' => hb d' (List.mem_cons_of_mem _ hd')))
theorem wpQuiet_run {P : Program} {ops : Array Oper} {rest : List Oper} {op : Oper} {a : Act} {C : World → Prop} {Q1 : Act → Prop} (hgd : op.guard = none) (v : Value) (hr : ∀ w, (execOp a.eval op).run P w = .ok (.value v) w) (h : wpQuiet P ops C Q1 rest (a.put op.dst v)) : wpQuiet P ops C Q1 (op :: rest) a := by
  have hw : Region.wanted op (yielded ops a.tmps) = true := by simp [Region.wanted, hgd]
  unfold wpQuiet
  rw [if_pos hw]
  refine ⟨_, fun w _ => ?_, h⟩
  unfold Oper.quietAt
  simp only [hr w]
  exact ⟨rfl, rfl⟩
theorem wp_run {P : Program} {Q : Exit → Act → World → Prop} {op : Oper} {a : Act} {w : World} {K : Act → World → Prop} (v : Value) (hr : (execOp a.eval op).run P w = .ok (.value v) w) (h : K (a.put op.dst v) w) : Oper.wp P op a w K Q := by
  unfold Oper.wp
  rw [hr]
  exact h
theorem run_loadVar_one {P : Program} {w : World} {ty : TypeId} {b o : Nat} {v : Value} (d : TypeDesc) (hu : P.underlying ty = some d) (hd : d.isRow = false) (hS : w.cell? ⟨b, o, none⟩ = some v) : (loadVar ty ⟨b, o, none⟩).run P w = .ok v w := by
  unfold loadVar
  have : (isAgg ty).run P w = .ok false w := by
    unfold isAgg
    rw [Sem.run_bind, run_underlying hu w]
    cases d <;> simp_all
  simp [Sem.run_bind, this, go_sem, hS]
/-- A read of one cell, quiet in a class of worlds. -/
theorem wpQuiet_load1 {P : Program} {ops : Array Oper} {rest : List Oper} {op : Oper} {a : Act} {C : World → Prop} {Q1 : Act → Prop} (hgd : op.guard = none) (ty : TypeId) (x : Operand) (ho : op.op = .load ty x)
    (b o : Nat) (hx : a.eval x = .pointer (some ⟨b, o, none⟩)) (v : Value) (d : TypeDesc) (hu : P.underlying ty = some d) (hd : d.isRow = false) (hS : ∀ w, C w → w.cell? ⟨b, o, none⟩ = some v)
    (h : wpQuiet P ops C Q1 rest (a.put op.dst v)) : wpQuiet P ops C Q1 (op :: rest) a := by
  have hw : Region.wanted op (yielded ops a.tmps) = true := by simp [Region.wanted, hgd]
  unfold wpQuiet
  rw [if_pos hw]
  refine ⟨_, fun w hC => ?_, h⟩
  unfold Oper.quietAt execOp
  simp only [ho, hx, Instr.loadAt, Instr.sureAddr, Sem.run_bind, Sem.run_pure, Result.andThen_ok, run_loadVar_one d hu hd (hS w hC)]
  exact ⟨rfl, rfl⟩
/-- .. as one operation. -/
theorem wp_load1 {P : Program} {Q : Exit → Act → World → Prop} {op : Oper} {a : Act} {w : World} {K : Act → World → Prop} (ty : TypeId) (x : Operand) (ho : op.op = .load ty x)
    (b o : Nat) (hx : a.eval x = .pointer (some ⟨b, o, none⟩)) (v : Value) (d : TypeDesc) (hu : P.underlying ty = some d) (hd : d.isRow = false) (hS : w.cell? ⟨b, o, none⟩ = some v)
    (h : K (a.put op.dst v) w) : Oper.wp P op a w K Q := by
  unfold Oper.wp execOp
  simp only [ho, hx, Instr.loadAt, Instr.sureAddr, Sem.run_bind, Sem.run_pure, Result.andThen_ok, run_loadVar_one d hu hd hS]
  exact h
end
end Go.Proofs.YtfdhiilhjfbehaaDoor
