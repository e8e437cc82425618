/- A region that draws its order, in which what does not only read is a chain: the reads first, then the chain, one operation after the other. -/
import Derived.Test.YteofgkdpknaapaaFlowS
namespace Go.Proofs.Yteofgkdpknaapaa
open Go Go.RowKit Go.Sort
/-- It reads, or looks whether a pointer is nil. -/
def plainN (o : Oper) : Bool := plainOp o || (match o.op with | .nilCheck _ => true | _ => false)
theorem andThen_of {α β : Type} {s : Result α} {f : α → World → Result β} {n : β} {w' : World} (h : s.andThen f = .ok n w') : ∃ x w1, s = .ok x w1 ∧ f x w1 = .ok n w' := by
  cases s with
  | ok x w1 => exact ⟨x, w1, rfl, h⟩
  | halt x w1 => cases h
theorem plainN_value {P : Program} {o : Oper} {e : Operand → Value} {w w' : World} {n : Next} (h : plainN o = true) (hr : (execOp e o).run P w = .ok n w') : ∃ v, n = .value v := by
  unfold plainN at h
  cases hp : plainOp o with
  | true => exact plainOp_value hp hr
  | false =>
    rw [hp, Bool.false_or] at h
    unfold execOp at hr
    split at h <;> rename_i ho
    · simp only [ho] at hr
      have hv : ∀ v w1, (Sem.run P (pure (Next.value v)) w1) = .ok n w' → ∃ v, n = .value v := fun v w1 h => by
        rw [Sem.run_pure] at h
        cases h
        exact ⟨_, rfl⟩
      have hp0 : ¬ (Sem.run P (runtimePanic .nilDeref : Sem Next) w) = .ok n w' := fun h => by
        simp [runtimePanic, go_sem] at h
      split at hr
      · exact absurd hr hp0
      · exact absurd hr hp0
      · exact absurd hr hp0
      · split at hr
        · exact absurd hr hp0
        · simp only [Sem.run_bind] at hr
          obtain ⟨_, _, _, h1⟩ := andThen_of hr
          obtain ⟨b, w1, _, h2⟩ := andThen_of h1
          split at h2
          · simp only [Sem.run_bind] at h2
            obtain ⟨_, _, h3, _⟩ := andThen_of h2
            cases h3
          · exact hv _ _ h2
        · exact hv _ _ hr
      · exact hv _ _ hr
    · cases h
section
variable {P : Program} {ops : Array Oper} {md : Region.Mode} {S : World → Prop} {Q : Exit → Act → World → Prop}
theorem yieldsIf_of_quietN {o : Oper} {a : Act} {K : Act → Prop} (hp : plainN o = true) (_hne : ∃ w, S w) (h : if Region.wanted o (yielded ops a.tmps) then o.quiet P a S K else K (a.put o.dst undef)) :
    ∃ v, YieldsIf P ops S o v a ∧ K (a.put o.dst v) := by
  split at h
  · rename_i hw
    obtain ⟨v, h1, h2⟩ := h
    refine ⟨v, .inl ⟨hw, fun w hS => ?_⟩, h2⟩
    have h3 := h1 w hS
    unfold Oper.quietAt at h3
    cases hr : (execOp a.eval o).run P w with
    | ok n w' =>
      obtain ⟨u, rfl⟩ := plainN_value hp hr
      rw [hr] at h3
      obtain ⟨rfl, rfl⟩ := h3
      rfl
    | halt x w' =>
      rw [hr] at h3
      exact h3.elim
  · rename_i hw
    exact ⟨undef, .inr ⟨by simpa using hw, rfl⟩, h⟩

theorem wpAnyH_readsN {l : List Oper} {fuel : Nat} (hs : Region.noSelect l.toArray = true) (hQ : ∀ c a d v w, Q (.panic c) (Act.put a d v) w → Q (.panic c) a w) :
    ∀ (is : List Nat) (listed : Array Bool) (a : Act) (w : World), S w → orderB md l.toArray is listed = true → (pickOps l is).all plainN = true →
      wpQuiet P l.toArray S (fun a1 => wpAnyH P md l.toArray Q S fuel (setAll listed is) a1 w) (pickOps l is) a →
      wpAnyH P md l.toArray Q S (is.length + fuel) listed a w
  | [], listed, a, w, _, _, _, h => by simpa [pickOps, wpQuiet, setAll] using h
  | i :: is, listed, a, w, hS, hB, hp, h => by
    simp only [orderB, Bool.and_eq_true] at hB
    obtain ⟨⟨hr, hf⟩, hB'⟩ := hB
    obtain ⟨o, ho⟩ : ∃ o, l[i]? = some o := by
      obtain ⟨_, o, ho, _⟩ := mem_ready.1 (by simpa using hr)
      exact ⟨o, by simpa using ho⟩
    have hpk : pickOps l (i :: is) = o :: pickOps l is := by rw [pickOps, ho]
    rw [hpk] at h hp
    simp only [List.all_cons, Bool.and_eq_true] at hp
    obtain ⟨v, hy, hK⟩ := yieldsIf_of_quietN hp.1 ⟨w, hS⟩ h
    rw [show (i :: is).length + fuel = (is.length + fuel) + 1 from by simp; omega]
    refine wpAnyH_take (by simpa using ho) hs hf hr (fun c a w => hQ c a _ _ w) hy hS ?_
    exact wpAnyH_readsN hs hQ is (listed.setIfInBounds i true) (a.put o.dst v) w hS hB' hp.2 hK

end
section
variable {P : Program} {ops : Array Oper} {md : Region.Mode}
/-- Reads first in the head, under what grows; then what is left of the head; then the tail. -/
theorem wpAny_reads_tailN {Q : Exit → Act → World → Prop} {a : Act} {S : World → Prop} {w : World} {l : List Oper} (n : Nat) (is1 : List Nat) (fuel : Nat) (hl : l.take n ++ l.drop n = l) (hn : (l.take n).length = n)
    (hb : backB md (l.take n) = true) (hs : Region.sinkB md l.toArray n = true) (hc : Region.chainB md l.toArray n = true) (ht : 0 < (l.drop n).length)
    (hseq : Region.seqB md l.toArray (l.drop n).length n (headDone n (l.drop n).length) = true)
    (hsel : Region.noSelect (l.take n).toArray = true) (hQ : ∀ c a d v w, Q (.panic c) (Act.put a d v) w → Q (.panic c) a w)
    (hB1 : orderB md (l.take n).toArray is1 (Array.replicate l.length false) = true) (hp : (pickOps (l.take n) is1).all plainN = true) (hlen : is1.length + fuel = n) (hw : S w)
    (h : wpQuiet P (l.take n).toArray S (fun a1 => wpAnyH P md (l.take n).toArray (Exit.then (wpList P l.toArray Q (l.drop n)) Q) S fuel (setAll (Array.replicate l.length false) is1) a1 w) (pickOps (l.take n) is1) a) :
    wpAny P md l.toArray Q l.toArray.size (Array.replicate l.length false) a w := by
  refine wpAny_head_tail n hl hn hb hs hc ht hseq ?_
  have key := wpAnyH_readsN (P := P) (md := md) (S := S) (Q := Exit.then (wpList P l.toArray Q (l.drop n)) Q) (fuel := fuel) hsel (fun c a d v w h => hQ c a d v w h) is1 (Array.replicate l.length false) a w hw hB1 hp h
  rw [hlen] at key
  rw [hn]
  exact wpAny_of_held _ _ _ _ key
theorem wp_region_reads_tailN {id : Nat} {S : World → Prop} {Q : Exit → Act → World → Prop} {a : Act} {w : World} {l : List Oper} (n : Nat) (is1 : List Nat) (fuel : Nat) (hm : P.follows .mixedOrders = true) (hl : l.take n ++ l.drop n = l) (hn : (l.take n).length = n)
    (hb : backB .any (l.take n) = true) (hs : Region.sinkB .any l.toArray n = true) (hc : Region.chainB .any l.toArray n = true) (ht : 0 < (l.drop n).length)
    (hseq : Region.seqB .any l.toArray (l.drop n).length n (headDone n (l.drop n).length) = true)
    (hsel : Region.noSelect (l.take n).toArray = true) (hQ : ∀ c a d v w, Q (.panic c) (Act.put a d v) w → Q (.panic c) a w)
    (hB1 : orderB .any (l.take n).toArray is1 (Array.replicate l.length false) = true) (hp : (pickOps (l.take n) is1).all plainN = true) (hlen : is1.length + fuel = n) (hst0 : S w.drew)
    (h : wpQuiet P (l.take n).toArray S (fun a1 => wpAnyH P .any (l.take n).toArray (Exit.then (wpList P l.toArray Q (l.drop n)) Q) S fuel (setAll (Array.replicate l.length false) is1) a1 w.drew) (pickOps (l.take n) is1) a) :
    (Code.region id l.toArray true).wp P Q a w := by
  refine wp_region_any hm ?_
  have := wpAny_reads_tailN n is1 fuel hl hn hb hs hc ht hseq hsel hQ hB1 hp hlen hst0 h
  simpa using this
end
section
variable {P : Program} {Q : Exit → Act → World → Prop} {md : Region.Mode} {S : World → Prop}
/-- The one operation that can come up. -/
theorem wpAnyH_val {l : List Oper} {i : Nat} {o : Oper} {fuel : Nat} {listed : Array Bool} {a : Act} {w : World} (hr : Region.ready md l.toArray listed = [i]) (ho : l[i]? = some o) (hg : o.guard = none)
    (h : Val P Q o a w (fun v w' => S w' ∧ wpAnyH P md l.toArray Q S fuel (listed.setIfInBounds i true) (a.put o.dst v) w')) : wpAnyH P md l.toArray Q S (fuel + 1) listed a w := by
  refine wpAnyH_one hr ho fun K hK => ?_
  rw [if_pos (by simp [Region.wanted, hg])]
  exact h K fun v w' hR => hK _ _ hR.1 hR.2
/-- None is left. -/
theorem wpAnyH_done {l : List Oper} {listed : Array Bool} {a : Act} {w : World} (hr : Region.ready md l.toArray listed = []) (h : Q .normal a w) : wpAnyH P md l.toArray Q S 0 listed a w := ⟨hr, h⟩
/-- A step that only lays keeps the property. -/
theorem valB {o : Oper} {a : Act} {W : World} {R : Value → World → Prop} (hc : ∀ W', Below W.heap.size W W' → S W') (h : Val P Q o a W (fun v W' => Below W.heap.size W W' ∧ R v W')) : Val P Q o a W (fun v W' => S W' ∧ R v W') :=
  fun K hK => h K fun v W' h' => hK v W' ⟨hc W' h'.1, h'.2⟩
end
section
variable {P : Program} {Q : Exit → Act → World → Prop} {o : Oper} {a : Act} {W : World} {R : Value → World → Prop}
/-- A call that may panic. -/
theorem val_callp (f : FuncId) (args : Array Operand) (ts : Array TypeId) (ho : o.op = .call { callee := .value (.func f), args := args, argTypes := ts }) (hf : (P.funcs[f]?).map (fun fn => (fn.name == "runtime.NumGoroutine", fn.body.isNone)) = some (false, false)) (vs : List Value) (hvs : args.toList.map a.eval = vs) (h : Calls P f vs.toArray W (fun e W' => (∃ v, e = .returned v ∧ R v W') ∨ ∃ c, e = .panicked c ∧ Q (.panic c) a W')) : Val P Q o a W R := fun K hK => by
  have hvs' : args.map a.eval = vs.toArray := by subst hvs; obtain ⟨l⟩ := args; simp only [List.map_toArray]
  unfold Oper.wp execOp
  simp only [ho]
  have e1 : a.eval (.func f) = .func (.func f) #[] #[] := rfl
  simp only [resolve, e1, hvs', Deferred.ofValue, Sem.run_bind, Sem.run_pure, Result.andThen_ok, invoke, Array.append_empty, Array.empty_append, run_callFunc hf, Oper.upon]
  refine h.mono ?_
  rintro e W' (⟨v, rfl, hR⟩ | ⟨c, rfl, hq⟩)
  · exact hK _ _ hR
  · exact hq
/-- append to an own row. -/
theorem val_appz {R : Value → World → Prop} (hg : o.guard = none) (s x : Operand) (t : TypeId) (hop : o.op = Op.call { callee := Callee.builtin Builtin.append, args := #[s, x], argTypes := #[t, t] })
    (e : TypeId) (i : TypeInfo) (z : Value) (sz bytes : Nat) (ht : P.underlying t = some (.slice e)) (hi : P.info? e = some i) (hz : i.zero = some z) (hs : i.size = sz) (hby : i.bytes = bytes) (hzs : z.cells.size = sz) (hsz : 0 < sz)
    (base : Nat) (hbase : base ≤ W.heap.size) (v : Value) (n : Nat) (xs : List Value) (hv : a.eval s = v) (h : AppZ W base e sz v n xs) (A : Option Addr) (m c : Nat) (news : List Value) (hx : a.eval x = .slice A m c) (hrd : Rd W sz A m news) (h1 : ∀ u ∈ news, u.oneCell' = true)
    (h63 : n + m ≤ maxLen) (hbytes : (n + m) * bytes ≤ 140737488355328)
    (hR : ∀ v' w', AppZ w' base e sz v' (n + m) (xs ++ news) → W.grownBy w' v.ownBlock → R v' w') : Val P Q o a W R := fun K hK => by
  have h := step_appz (ops := #[]) (E := True) (K := K) (Q := Q) hg s x t hop e i z sz bytes ht hi hz hs hby hzs hsz base hbase v n xs hv h A m c news hx hrd h1 h63 hbytes (fun v' w' h1 h2 => hK v' w' (hR v' w' h1 h2))
  rwa [if_pos (by simp [Region.wanted, hg])] at h
/-- An operation by its run. -/
theorem val_run (v : Value) (hr : (execOp a.eval o).run P W = .ok (.value v) W) (h : R v W) : Val P Q o a W (fun v W' => Below W.heap.size W W' ∧ R v W') := fun K hK => by
  unfold Oper.wp
  rw [hr]
  exact hK _ _ ⟨Below.refl _ _, h⟩
end
theorem run_build_op {P : Program} {o : Oper} {a : Act} (t : TypeId) (parts : Array (Nat × Operand)) (ho : o.op = .build t parts) (vals : List (Nat × Value)) (hv : parts.toList.map (fun (x : Nat × Operand) => (x.fst, a.eval x.snd)) = vals) (Z : Array Value) (hZ : P.built t vals = some Z) (W : World) : (execOp a.eval o).run P W = .ok (.value (.agg Z)) W := by
  unfold execOp
  simp only [ho, Sem.run_bind, Sem.run_pure]
  rw [show parts.map (fun (x : Nat × Operand) => (x.fst, a.eval x.snd)) = vals.toArray from by subst hv; obtain ⟨l⟩ := parts; simp only [List.map_toArray], run_build W t _ Z hZ]
  rfl
/-- A load of a known cell is quiet. -/
theorem quiet_load {P : Program} {C : World → Prop} {o : Oper} {a : Act} {Q : Act → Prop} {x : Operand} {t : TypeId} (ho : o.op = .load t x) (p : Addr) (hx : a.eval x = .pointer (some p)) (v : Value) (hr : ∀ w, C w → (Instr.loadAt t (.pointer (some p))).run P w = .ok v w) (h : Q (a.put o.dst v)) : o.quiet P a C Q := by
  refine ⟨v, fun w hw => ?_, h⟩
  unfold Oper.quietAt execOp
  simp only [ho, hx, Sem.run_bind, hr w hw, Result.andThen_ok, Sem.run_pure]
  exact ⟨rfl, rfl⟩
/-- A quiet operation by its run. -/
theorem wpQuiet_val {P : Program} {ops : Array Oper} {C : World → Prop} {Q : Act → Prop} {a : Act} {o : Oper} {rest : List Oper} (hg : o.guard = none) (v : Value) (h : ∀ w, C w → (execOp a.eval o).run P w = .ok (.value v) w) (hn : wpQuiet P ops C Q rest (a.put o.dst v)) : wpQuiet P ops C Q (o :: rest) a := by
  unfold wpQuiet
  rw [if_pos (by simp [Region.wanted, hg])]
  refine ⟨v, fun w hw => ?_, hn⟩
  unfold Oper.quietAt
  rw [h w hw]
  exact ⟨rfl, rfl⟩
end Go.Proofs.Yteofgkdpknaapaa
