/- Laws that several packages' walks share. -/
import Derived.Test.YtfdhiilhjfbehaaDoorH8
import Derived.Test.YtfdhiilhjfbehaaDoorH13
import Derived.Test.YtfdhiilhjfbehaaDoorFlowC
import Derived.Laws.BytesArg
import Derived.Laws.BitsAllLaws
namespace Go.Proofs.YtfdhiilhjfbehaaDoor
section
open Go.RowKit Go.Sort
/-- A read of an array that is known as a list, under a guard that holds. -/
theorem wpQuiet_load_mid_g {P : Program} {ops : Array Oper} {rest : List Oper} {op : Oper} {a : Act} {C : World → Prop} {Q1 : Act → Prop} (hw : Region.wanted op (yielded ops a.tmps) = true) (ty : TypeId) (x : Operand) (ho : op.op = .load ty x)
    (b o : Nat) (hx : a.eval x = .pointer (some ⟨b, o, none⟩)) (cs : List Value) (d : TypeDesc) (hS : ∀ w, C w → w.rangeAt b o cs)
    (hu : P.underlying ty = some d) (hd : d.isRow = true) (hi : (P.info? ty).map (·.size) = some cs.length)
    (h : wpQuiet P ops C Q1 rest (a.put op.dst (.agg cs.toArray))) : wpQuiet P ops C Q1 (op :: rest) a := by
  unfold wpQuiet
  rw [if_pos hw]
  refine ⟨_, fun w hC => ?_, h⟩
  unfold Oper.quietAt execOp
  simp only [ho, hx, Instr.loadAt, Instr.sureAddr, Sem.run_bind, Sem.run_pure, Result.andThen_ok, run_loadVar_mid w b o ty cs d (hS w hC) hu hd hi]
  exact ⟨rfl, rfl⟩
/-- New slices of bytes, one after the other. -/
def Ins (w : World) (vs : List Sl) (cs : List (List UInt8)) : Prop := vs.length = cs.length ∧ ∀ (k : Nat) (v : Sl) (c : List UInt8), vs[k]? = some v → cs[k]? = some c → TRd w 5 1 v.a v.n (c.map byteV) ∧ v.n ≤ v.c
theorem TRd.kept {w w' : World} {e t sz n g : Nat} {A : Option Addr} {xs : List Value} {cs : Array Value} (h : TRd w e sz A n xs) (hg : Blk w g t cs) (hne : t ≠ e) (hk : KeptIn (fun k => k ≠ g) w w') : TRd w' e sz A n xs := by
  have hb : ∀ b off, 0 < n → A = some ⟨b, off, none⟩ → b ≠ g := fun b off hn e => by
    obtain ⟨cur, hc⟩ := h.2 hn b off e
    exact hc.ne hg (fun e => hne e.symm)
  exact ⟨h.1.keptIn hk (fun b off hn e => hb b off hn e), fun hn b off e => by obtain ⟨cur, hc⟩ := h.2 hn b off e; exact ⟨cur, hc.keptIn hk (hb b off hn e)⟩⟩
theorem KeptIn.grownBut {w w' : World} {g : Nat} (h : KeptIn (fun k => k ≠ g) w w') : w.grownBy w' (some g) := ⟨h.os, h.tape, h.output, h.size, fun i _ hne => h.block i (fun e => hne (by rw [e]))⟩
theorem TRd.grown {w w' : World} {e t sz n : Nat} {A : Option Addr} {xs : List Value} {row : Option Nat} (h : TRd w e sz A n xs) (hg : w.grownBy w' row) (hrow : ∀ g, row = some g → ∃ cur, Blk w g t cur) (hne : t ≠ e) : TRd w' e sz A n xs := by
  have hb : ∀ b off, 0 < n → A = some ⟨b, off, none⟩ → some b ≠ row := fun b off hn e' er => by
    obtain ⟨cur, hc⟩ := h.2 hn b off e'
    obtain ⟨cur', hc'⟩ := hrow b er.symm
    exact (Blk.ne hc' hc hne) rfl
  refine ⟨⟨h.1.1, h.1.2.1, fun hn => ?_⟩, fun hn b off e' => ?_⟩
  · obtain ⟨b, off, e', hc⟩ := h.1.2.2 hn
    exact ⟨b, off, e', fun j u hu => hg.cell (hc j u hu) (hb b off hn e')⟩
  · obtain ⟨cur, hc⟩ := h.2 hn b off e'
    exact ⟨cur, hc.kept hg (hb b off hn e')⟩
theorem AppZ.row {w : World} {base e sz n : Nat} {v : Value} {xs : List Value} (h : AppZ w base e sz v n xs) (hn : 0 < n) : ∀ g, v.ownBlock = some g → ∃ cur, Blk w g e cur := by
  intro g e'
  obtain ⟨A, c, rfl, _, _⟩ := h.rd
  cases A with
  | none => cases e'
  | some a =>
    obtain ⟨b, o, s⟩ := a
    simp only [Value.ownBlock, Option.some.injEq] at e'
    subst e'
    rcases h with ⟨h0, _⟩ | ⟨_, ⟨hv, _⟩ | ⟨g', cap, cur, hv, hb, hgg, _⟩⟩
    · omega
    · cases hv
    · cases hv
      exact ⟨cur, hgg⟩
theorem Ins.below {w w' : World} {vs : List Sl} {cs : List (List UInt8)} (h : Ins w vs cs) (hb : Below w.heap.size w w') : Ins w' vs cs := ⟨h.1, fun k v c hv hc => ⟨(h.2 k v c hv hc).1.below hb, (h.2 k v c hv hc).2⟩⟩
theorem Ins.grown {w w' : World} {t : Nat} {vs : List Sl} {cs : List (List UInt8)} {row : Option Nat} (h : Ins w vs cs) (hg : w.grownBy w' row) (hrow : ∀ g, row = some g → ∃ cur, Blk w g t cur) (hne : t ≠ 5) : Ins w' vs cs := ⟨h.1, fun k v c hv hc => ⟨(h.2 k v c hv hc).1.grown hg hrow hne, (h.2 k v c hv hc).2⟩⟩
theorem Ins.kept {w w' : World} {t g : Nat} {vs : List Sl} {cs : List (List UInt8)} {cur : Array Value} (h : Ins w vs cs) (hg : Blk w g t cur) (hne : t ≠ 5) (hk : KeptIn (fun k => k ≠ g) w w') : Ins w' vs cs := ⟨h.1, fun k v c hv hc => ⟨(h.2 k v c hv hc).1.kept hg hne hk, (h.2 k v c hv hc).2⟩⟩
theorem TRd.ext {w w' : World} {e : TypeId} {sz n : Nat} {A : Option Addr} {xs : List Value} (h : TRd w e sz A n xs) (hb : Below w.heap.size w w') : TRd w' e sz A n xs := h.below hb
theorem Ins.append {w : World} {vs us : List Sl} {cs ds : List (List UInt8)} (h : Ins w vs cs) (h' : Ins w us ds) : Ins w (vs ++ us) (cs ++ ds) := by
  refine ⟨by simp [h.1, h'.1], fun k v c hv hc => ?_⟩
  by_cases hk : k < vs.length
  · rw [List.getElem?_append_left hk] at hv
    rw [List.getElem?_append_left (by rw [← h.1]; exact hk)] at hc
    exact h.2 k v c hv hc
  · rw [List.getElem?_append_right (by omega)] at hv
    rw [List.getElem?_append_right (by rw [← h.1]; omega), ← h.1] at hc
    exact h'.2 _ v c hv hc
theorem App.nil (w : World) (base : Nat) (e : TypeId) : App w base e (.slice none 0 0) 0 [] := .inr (World.ownsRow_nil _ _ _ _)
theorem App.keep {w w' : World} {base n : Nat} {e : TypeId} {v : Value} {xs : List Value} (h : App w base e v n xs) (hb : Below w.heap.size w w') : App w' base e v n xs := h.below hb (Nat.le_refl _)

theorem results_row_tmp {P : Program} {fn : Func} {p u : Tmp} {ty : TypeId} (h : fn.results = #[.cell p ty, .tmp u]) (tmps : Array Value) (w : World) (g : Nat) (t : TypeId) (cs : Array Value) (fr : Nat × Nat) (d : TypeDesc)
    (hp : tmps.getD p undef = .pointer (some ⟨g, 0, none⟩)) (hg : w.heap[g]? = some (.cells cs t fr))
    (hu : P.underlying ty = some d) (hd : d.isRow = true) (hi : (P.info? ty).map (·.size) = some cs.size) :
    (results fn tmps).run P w = .ok (.tuple #[.agg cs, tmps.getD u undef]) w := by
  rw [results_cell_tmp h, hp]
  simp [asAddr, run_loadVar_row w g t ty cs fr d hg hu (by cases d <;> first | rfl | exact hd) hi]
theorem made_one (v : Value) (k : Nat) : madeCells #[v] k = (List.replicate k v).toArray := by
  apply Array.ext
  · simp [madeCells]
  · intro j h1 h2
    simp [madeCells, Nat.mod_one]
end
section
open Go.RowKit Go.Sort
variable {P : Program} {ops : Array Oper} {Q : Exit → Act → World → Prop} {o : Oper} {a : Act} {w : World} {K : Act → World → Prop} {E : Prop}
/-- A row is built of two parts. -/
theorem step_build2 (hg : o.guard = none) (t : TypeId) (i j : Nat) (x y : Operand) (ho : o.op = .build t #[(i, x), (j, y)]) (vx vy : Value) (hx : a.eval x = vx) (hy : a.eval y = vy) (Z : Array Value) (hZ : P.built t [(i, vx), (j, vy)] = some Z)
    (h : K (a.put o.dst (.agg Z)) w) : if Region.wanted o (yielded ops a.tmps) = true then Oper.wp P o a w K Q else E := by
  have hw : Region.wanted o (yielded ops a.tmps) = true := by simp [Region.wanted, hg]
  rw [if_pos hw]
  unfold Oper.wp execOp
  simp only [ho, Sem.run_bind]
  rw [show (Array.map (fun (x : Nat × Operand) => (x.fst, a.eval x.snd)) #[(i, x), (j, y)]) = #[(i, vx), (j, vy)] from by simp [hx, hy], run_build w t _ Z hZ]
  exact h
end
section
open Go.RowKit Go.Sort
theorem App.own {w : World} {base n : Nat} {e : TypeId} {v : Value} {xs : List Value} (h : App w base e v n xs) (hn : 0 < n) : ∃ A c, v = .slice A n c ∧ n ≤ c ∧ w.ownsRow base e 1 v n xs := by
  obtain ⟨A, c, rfl, hc, _⟩ := h.rd
  rcases h with ⟨h0, _⟩ | h
  · omega
  · exact ⟨A, c, rfl, hc, h⟩

theorem slV_inj {v u : Sl} (h : slV v = slV u) : v = u := by
  cases v; cases u
  simp only [slV, Value.slice.injEq] at h
  obtain ⟨rfl, rfl, rfl⟩ := h
  rfl
theorem Rd.uniq {w : World} {A : Option Addr} {n : Nat} {vs us : List Sl} (h : Rd w 1 A n (vs.map slV)) (h' : Rd w 1 A n (us.map slV)) : vs = us := by
  have hl := h.len1
  have hl' := h'.len1
  apply List.ext_getElem?
  intro k
  by_cases hk : k < n
  · obtain ⟨b, off, x, e, hx, hc⟩ := h.at_ hk
    obtain ⟨b', off', y, e', hy, hc'⟩ := h'.at_ hk
    rw [e] at e'
    cases e'
    rw [hc] at hc'
    rw [hx, hy, slV_inj (Option.some.inj hc')]
  · rw [List.getElem?_eq_none (by omega), List.getElem?_eq_none (by omega)]
/-- A row is built of two parts. -/
theorem wpList_build2 {P : Program} {ops : Array Oper} {rest : List Oper} {o : Oper} {a : Act} {w : World} {Q : Exit → Act → World → Prop} (hg : o.guard = none) (t : TypeId) (i j : Nat) (x y : Operand) (ho : o.op = .build t #[(i, x), (j, y)]) (vx vy : Value) (hx : a.eval x = vx) (hy : a.eval y = vy) (Z : Array Value) (hZ : P.built t [(i, vx), (j, vy)] = some Z)
    (h : wpList P ops Q rest (a.put o.dst (.agg Z)) w) : wpList P ops Q (o :: rest) a w := by
  refine wpList_plain hg fun K hK => ?_
  have := step_build2 (P := P) (ops := ops) (Q := Q) (E := True) (K := K) (w := w) hg t i j x y ho vx vy hx hy Z hZ (hK _ _ h)
  have hw : Region.wanted o (yielded ops a.tmps) = true := by simp [Region.wanted, hg]
  rwa [if_pos hw] at this
/-- A row is built of three parts. -/
theorem wpList_build3 {P : Program} {ops : Array Oper} {rest : List Oper} {o : Oper} {a : Act} {w : World} {Q : Exit → Act → World → Prop} (hg : o.guard = none) (t : TypeId) (i j k : Nat) (x y z : Operand) (ho : o.op = .build t #[(i, x), (j, y), (k, z)]) (vx vy vz : Value) (hx : a.eval x = vx) (hy : a.eval y = vy) (hz : a.eval z = vz) (Z : Array Value) (hZ : P.built t [(i, vx), (j, vy), (k, vz)] = some Z)
    (h : wpList P ops Q rest (a.put o.dst (.agg Z)) w) : wpList P ops Q (o :: rest) a w := by
  refine wpList_plain hg fun K hK => ?_
  unfold Oper.wp execOp
  simp only [ho, Sem.run_bind]
  rw [show (Array.map (fun (x : Nat × Operand) => (x.fst, a.eval x.snd)) #[(i, x), (j, y), (k, z)]) = #[(i, vx), (j, vy), (k, vz)] from by simp [hx, hy, hz], run_build w t _ Z hZ]
  exact hK _ _ h

/-- A chunk with its number and its proof, as it lies in a list. -/
structure Ck where
  (i : Int) (d l : Sl)
def ckV (x : Ck) : List Value := [.int .i64 x.i, slV x.d, slV x.l]
theorem ck_one (x : Ck) : ∀ u ∈ ckV x, u.oneCell' = true := fun u hu => by
  simp [ckV] at hu
  rcases hu with rfl | rfl | rfl <;> rfl

/-- A row is built of one part. -/
theorem wpList_buildOne {P : Program} {ops : Array Oper} {rest : List Oper} {o : Oper} {a : Act} {w : World} {Q : Exit → Act → World → Prop} (hg : o.guard = none) (t : TypeId) (i : Nat) (x : Operand) (ho : o.op = .build t #[(i, x)]) (vx : Value) (hx : a.eval x = vx) (Z : Array Value) (hZ : P.built t [(i, vx)] = some Z)
    (h : wpList P ops Q rest (a.put o.dst (.agg Z)) w) : wpList P ops Q (o :: rest) a w := by
  refine wpList_plain hg fun K hK => ?_
  unfold Oper.wp execOp
  simp only [ho, Sem.run_bind]
  rw [show (Array.map (fun (x : Nat × Operand) => (x.fst, a.eval x.snd)) #[(i, x)]) = #[(i, vx)] from by simp [hx], run_build w t _ Z hZ]
  exact hK _ _ h
end
section
open Go.RowKit Go.Sort
variable {P : Program} {ops : Array Oper} {Q : Exit → Act → World → Prop} {o : Oper} {a : Act} {w : World} {K : Act → World → Prop} {E : Prop}
/-- 'make([]T, ..)'. -/
theorem step_mk (hg : o.guard = none) (t : TypeId) (x y : Operand) (ho : o.op = .makeSlice t x y) (vx vy : Value) (hx : a.eval x = vx) (hy : a.eval y = vy) (r : Value) (W' : World) (hr : (Instr.makeSlice t vx vy).run P w = .ok r W')
    (h : K (a.put o.dst r) W') : if Region.wanted o (yielded ops a.tmps) = true then Oper.wp P o a w K Q else E := by
  have hw : Region.wanted o (yielded ops a.tmps) = true := by simp [Region.wanted, hg]
  rw [if_pos hw]
  subst hx hy
  unfold Oper.wp execOp
  simp only [ho, Sem.run_bind, Sem.run_pure, hr, Result.andThen_ok]
  exact h
end
section
open Go.RowKit Go.Sort
theorem step_build3 {P : Program} {ops : Array Oper} {Q : Exit → Act → World → Prop} {o : Oper} {a : Act} {w : World} {K : Act → World → Prop} {E : Prop} (hg : o.guard = none) (t : TypeId) (i j k : Nat) (x y z : Operand) (ho : o.op = .build t #[(i, x), (j, y), (k, z)]) (vx vy vz : Value) (hx : a.eval x = vx) (hy : a.eval y = vy) (hz : a.eval z = vz) (Z : Array Value) (hZ : P.built t [(i, vx), (j, vy), (k, vz)] = some Z)
    (h : K (a.put o.dst (.agg Z)) w) : if Region.wanted o (yielded ops a.tmps) = true then Oper.wp P o a w K Q else E := by
  have hw : Region.wanted o (yielded ops a.tmps) = true := by simp [Region.wanted, hg]
  rw [if_pos hw]
  unfold Oper.wp execOp
  simp only [ho, Sem.run_bind]
  rw [show (Array.map (fun (x : Nat × Operand) => (x.fst, a.eval x.snd)) #[(i, x), (j, y), (k, z)]) = #[(i, vx), (j, vy), (k, vz)] from by simp [hx, hy, hz], run_build w t _ Z hZ]
  exact h
/-- What is left as it was by a write to a block of another type. -/
theorem AppZ.setRow {w : World} {base e sz n g t : Nat} {v : Value} {xs : List Value} {old cells : Array Value} (h : AppZ w base e sz v n xs) (hg : Blk w g t old) (hne : t ≠ e) : AppZ (w.setRow g cells) base e sz v n xs := by
  have hgr := ((KeptIn.refl (fun k => k ≠ g) w).setRow (g := g) (fun h => h rfl) cells).grownBut
  rcases h with ⟨h1, h2, a, h3, h4, h5⟩ | h
  · exact .inl ⟨h1, h2, a, h3, h4, Nat.lt_of_lt_of_le h5 hgr.size⟩
  · refine .inr (h.kept hgr ?_)
    rcases h.2 with ⟨rfl, _⟩ | ⟨g', cap, cur, rfl, _, hgg, _⟩
    · exact .inl rfl
    · exact .inr fun e' => by
        have : g' = g := by simpa [Value.ownBlock] using e'
        subst this
        exact (Blk.ne hg hgg hne) rfl
theorem AppZ.setAt {w : World} {base e sz n g i t : Nat} {v u : Value} {xs : List Value} {old : Array Value} (h : AppZ w base e sz v n xs) (hg : Blk w g t old) (hne : t ≠ e) : AppZ (w.setCell ⟨g, i, none⟩ u) base e sz v n xs := by
  have hgr := ((KeptIn.refl (fun k => k ≠ g) w).setAt (p := ⟨g, i, none⟩) (fun h => h rfl) u).grownBut
  rcases h with ⟨h1, h2, a, h3, h4, h5⟩ | h
  · exact .inl ⟨h1, h2, a, h3, h4, Nat.lt_of_lt_of_le h5 hgr.size⟩
  · refine .inr (h.kept hgr ?_)
    rcases h.2 with ⟨rfl, _⟩ | ⟨g', cap, cur, rfl, _, hgg, _⟩
    · exact .inl rfl
    · exact .inr fun e' => by
        have : g' = g := by simpa [Value.ownBlock] using e'
        subst this
        exact (Blk.ne hg hgg hne) rfl
theorem AppZ.trd {w : World} {base e sz n c : Nat} {A : Option Addr} {xs : List Value} (h : AppZ w base e sz (.slice A n c) n xs) : TRd w e sz A n xs := by
  rcases h with ⟨rfl, rfl, _⟩ | h
  · exact ⟨Rd.nil _ _ _, fun h => absurd h (Nat.lt_irrefl 0)⟩
  · exact TRd.of_own h
theorem step_load_mid {P : Program} {ops : Array Oper} {Q : Exit → Act → World → Prop} {o : Oper} {a : Act} {w : World} {K : Act → World → Prop} (hg : o.guard = none) (ty : TypeId) (x : Operand) (ho : o.op = .load ty x)
    (b off : Nat) (hx : a.eval x = .pointer (some ⟨b, off, none⟩)) (cs : List Value) (d : TypeDesc) (hc : w.rangeAt b off cs)
    (hu : P.underlying ty = some d) (hd : d.isRow = true) (hi : (P.info? ty).map (·.size) = some cs.length)
    (h : K (a.put o.dst (.agg cs.toArray)) w) : StepP P ops Q o a w K := by
  have hw : Region.wanted o (yielded ops a.tmps) = true := by simp [Region.wanted, hg]
  unfold StepP
  rw [if_pos hw]
  exact wp_load_mid ty x ho b off hx cs d hc hu hd hi h
/-- A region that draws its order, all of it: reads first, then one walk along the chain (web_start0). -/
theorem wp_region_web {P : Program} {id : Nat} {Q : Exit → Act → World → Prop} {a : Act} {w : World} {l : List Oper} (is1 : List Nat) (fuel : Nat) (hm : P.follows .mixedOrders = true)
    (hs : Region.noSelect l.toArray = true) (hQ : ∀ c a d v w, Q (.panic c) (Act.put a d v) w → Q (.panic c) a w)
    (hB1 : orderB .any l.toArray is1 (Array.replicate l.length false) = true) (hp : (pickOps l is1).all plainOp = true) (hlen : is1.length + fuel = l.length)
    (h : wpQuiet P l.toArray (Ext w) (fun a1 => wpAnyH P .any l.toArray Q (Ext w) fuel (setAll (Array.replicate l.length false) is1) a1 w.drew) (pickOps l is1) a) :
    (Code.region id l.toArray true).wp P Q a w := by
  refine wp_region_held (S := Ext w) hm ?_
  have key : wpAnyH P .any l.toArray Q (Ext w) (is1.length + fuel) (Array.replicate l.length false) a w.drew := by
    refine wpAnyH_reads hs hQ is1 _ a w.drew (ext_drew (ext_refl w)) hB1 hp ?_
    exact h
  rw [hlen] at key
  simpa using key
theorem flat_bd {h : List (List UInt8)} {K : Nat} (hh : ∀ x ∈ h, x.length ≤ K) : h.flatten.length ≤ h.length * K := by
  induction h with
  | nil => simp
  | cons x xs ih =>
    have h1 := hh x (by simp)
    have h2 := ih fun y hy => hh y (by simp [hy])
    rw [List.flatten_cons, List.length_append, List.length_cons, Nat.add_mul]
    omega

theorem Blk.setAt {w : World} {B t t' : Nat} {cs cs' : Array Value} {p : Addr} (h : Blk w B t cs) (hg : Blk w p.block t' cs') (hne : t ≠ t') (v : Value) : Blk (w.setCell p v) B t cs :=
  h.keptIn ((KeptIn.refl (fun k => k ≠ p.block) w).setAt (fun h => h rfl) v) (h.ne hg hne)

theorem wpList_buildN {P : Program} {ops : Array Oper} {rest : List Oper} {o : Oper} {a : Act} {w : World} {Q : Exit → Act → World → Prop} (hg : o.guard = none) (t : TypeId) (parts : Array (Nat × Operand)) (ho : o.op = .build t parts) (vals : List (Nat × Value)) (hv : parts.toList.map (fun (x : Nat × Operand) => (x.fst, a.eval x.snd)) = vals) (Z : Array Value) (hZ : P.built t vals = some Z)
    (h : wpList P ops Q rest (a.put o.dst (.agg Z)) w) : wpList P ops Q (o :: rest) a w := by
  refine wpList_plain hg fun K hK => ?_
  unfold Oper.wp execOp
  simp only [ho, Sem.run_bind]
  rw [show parts.map (fun (x : Nat × Operand) => (x.fst, a.eval x.snd)) = vals.toArray from by subst hv; obtain ⟨l⟩ := parts; simp only [List.map_toArray], run_build w t _ Z hZ]
  exact hK _ _ h

def str (l : List UInt8) : ByteArray := ⟨l.toArray⟩
theorem str_inj {a b : List UInt8} (h : str a = str b) : a = b := by
  have := congrArg (fun x : ByteArray => x.data.toList) h
  simpa [str] using this
theorem Rd.head1 {α : Type} {f : α → Value} {w : World} {n m : Nat} {A : Option Addr} {xs : List α} (h : Rd w 1 A n (xs.map f)) (hm : m ≤ n) : Rd w 1 A m ((xs.take m).map f) := by
  have hl := h.len1
  refine ⟨by simp; omega, by have := h.le; omega, fun hp => ?_⟩
  obtain ⟨b, off, e, hc⟩ := h.2.2 (by omega)
  refine ⟨b, off, e, fun j u hu => hc j u ?_⟩
  rw [List.getElem?_map] at hu ⊢
  rw [List.getElem?_take] at hu
  split at hu
  · exact hu
  · simp at hu

theorem upL_getD (xs : List Sum32) (k : Nat) (h : k < (xs.length + 1) / 2) : (upL xs).getD k z32 = upAt xs k := by
  unfold upL
  rw [List.getD_eq_getElem?_getD, List.getElem?_map, List.getElem?_range h]
  rfl
theorem chk_proof : ∀ (m : Nat) (xs : List Sum32) (i : Nat), xs.length ≤ m → i < xs.length → chkL xs.length i (xs.getD i z32) (proofL xs i) = some (rootL xs)
  | 0, xs, i, h, hi => by omega
  | m + 1, xs, i, h, hi => by
    by_cases h1 : xs.length ≤ 1
    · obtain rfl : i = 0 := by omega
      rw [proofL_one xs 0 h1, chkL_one _ _ _ _ h1, if_pos rfl, rootL_one xs h1]
    · have hx := xor1_cases i
      have ih := chk_proof m (upL xs) (i / 2) (by rw [upL_length]; omega) (by rw [upL_length]; omega)
      rw [upL_length, upL_getD xs (i / 2) (by omega)] at ih
      rw [rootL_up xs (by omega), ← ih, proofL_up xs i (by omega)]
      by_cases hk : i ^^^ 1 < xs.length
      · rw [if_pos hk, List.cons_append, List.nil_append, chkL_cons _ _ _ _ _ (by omega) (by omega)]
        congr 1
        have hu : upAt xs (i / 2) = pairS (xs.getD (2 * (i / 2)) z32) (xs.getD (2 * (i / 2) + 1) z32) := by
          unfold upAt
          rw [if_pos (by split at hx <;> omega)]
        rw [hu]
        by_cases ho : i % 2 = 1
        · rw [if_neg (by omega)] at hx
          rw [if_pos ho, hx, show 2 * (i / 2) = i - 1 from by omega, show i - 1 + 1 = i from by omega]
        · rw [if_pos (by omega)] at hx
          rw [if_neg ho, hx, show 2 * (i / 2) = i from by omega]
      · rw [if_neg hk, List.nil_append, chkL_skip _ _ _ _ (by omega) (by omega)]
        congr 1
        unfold upAt
        split at hx
        · rw [if_neg (by omega), show 2 * (i / 2) = i from by omega]
        · omega
theorem proofL_length : ∀ (k : Nat) (xs : List Sum32) (i : Nat), xs.length ≤ 2 ^ k → (proofL xs i).length ≤ k
  | 0, xs, i, h => by rw [proofL_one xs i (by simpa using h)]; simp
  | k + 1, xs, i, h => by
    by_cases h1 : xs.length ≤ 1
    · rw [proofL_one xs i h1]; simp
    · rw [proofL_up xs i (by omega), List.length_append]
      have := proofL_length k (upL xs) (i / 2) (by rw [upL_length]; rw [Nat.pow_succ] at h; omega)
      split <;> simp <;> omega

/-- The cut slices. -/
def Cut (w : World) (vs : List Sl) (cs : List (List UInt8)) : Prop := vs.length = cs.length ∧ ∀ (k : Nat) (v : Sl) (c : List UInt8), vs[k]? = some v → cs[k]? = some c → Rd w 1 v.a v.n (c.map byteV) ∧ v.n ≤ v.c
theorem Cut.snoc {w : World} {vs : List Sl} {cs : List (List UInt8)} (h : Cut w vs cs) {v : Sl} {c : List UInt8} (hr : Rd w 1 v.a v.n (c.map byteV)) (hc : v.n ≤ v.c) : Cut w (vs ++ [v]) (cs ++ [c]) := by
  refine ⟨by simp [h.1], fun k v' c' hv hc' => ?_⟩
  by_cases hk : k < vs.length
  · rw [List.getElem?_append_left hk] at hv
    rw [List.getElem?_append_left (by rw [← h.1]; exact hk)] at hc'
    exact h.2 k v' c' hv hc'
  · rw [List.getElem?_append_right (by omega)] at hv
    rw [List.getElem?_append_right (by rw [← h.1]; omega), ← h.1] at hc'
    have h0 : k - vs.length = 0 := by
      rcases Nat.eq_zero_or_pos (k - vs.length) with h0 | h0
      · exact h0
      · rw [List.getElem?_eq_none (by simp; omega)] at hv
        cases hv
    rw [h0] at hv hc'
    cases hv; cases hc'
    exact ⟨hr, hc⟩
theorem elem22 : Tryd.prog.elem 22 = 5 := by kernel_rfl
theorem und22 : Tryd.prog.underlying 22 = some (.slice (Tryd.prog.elem 22)) := by rw [elem22]; exact Tryd.underlying22
theorem run_bytes_head (a : Option Addr) (n c m : Nat) (hm : m ≤ c) (w : World) : (Instr.slice 22 (.slice a n c) none (some (.int .i64 (m : Int))) none).run Tryd.prog w = .ok (.slice a m c) w := by
  obtain ⟨iE, hi'⟩ : ∃ i, Tryd.prog.info? 5 = some i := by
    have := size22'
    unfold Program.cellsOf at this
    cases h : Tryd.prog.info? 5 with
    | none => simp [h] at this
    | some i => exact ⟨i, rfl⟩
  rw [run_slice_h (P := Tryd.prog) w 22 a n c und22 .i64 (m : Int) (by omega) (by omega), elem22, run_sizeOf w hi', size22']
  simp only [Result.andThen_ok, sliced, Int.toNat_natCast, Nat.zero_mul, Nat.sub_zero]
  have h0 : ∀ x : Addr, x.add 0 = x := fun x => by obtain ⟨b, o, s⟩ := x; unfold Addr.add; split <;> simp_all
  have : (if c = 0 then a else a.map fun x => x.add 0) = a := by
    split
    · rfl
    · cases a with
      | none => rfl
      | some x => simp [h0]
  rw [this]
theorem info22 : (Tryd.prog.info? 22).map (fun i => (i.zero, i.size, i.bytes)) = some (some (.slice none 0 0), 1, 24) := by kernel_rfl

theorem und41b : (Tryd.prog.underlying 77).map (·.isRow) = some true := by kernel_rfl
theorem und41 : ∃ d, Tryd.prog.underlying 77 = some d ∧ d.isRow = true := by
  obtain ⟨d, h1, h2⟩ := Option.map_eq_some_iff.1 und41b
  exact ⟨d, h1, h2⟩
theorem built32z : Tryd.prog.built 26 [] = some (sumC z32).toArray := by kernel_rfl
theorem wpQuiet_build0_g {P : Program} {ops : Array Oper} {rest : List Oper} {op : Oper} {a : Act} {C : World → Prop} {Q1 : Act → Prop} (hw : Region.wanted op (yielded ops a.tmps) = true) (t : TypeId) (ho : op.op = .build t #[])
    (Z : Array Value) (hZ : P.built t [] = some Z)
    (h : wpQuiet P ops C Q1 rest (a.put op.dst (.agg Z))) : wpQuiet P ops C Q1 (op :: rest) a := by
  unfold wpQuiet
  rw [if_pos hw]
  refine ⟨_, fun w hC => ?_, h⟩
  unfold Oper.quietAt execOp
  simp only [ho, Sem.run_bind]
  rw [show (Array.map (fun (x : Nat × Operand) => (x.fst, a.eval x.snd)) #[]) = #[] from by simp, run_build w t #[] Z hZ]
  exact ⟨rfl, rfl⟩

theorem und22s : Tryd.prog.underlying 22 = some (.slice 5) := Tryd.underlying22
theorem und5s : Tryd.prog.underlying 5 = some (.int .u8) := by kernel_rfl
theorem und9s : Tryd.prog.underlying 9 = some .string := by kernel_rfl
theorem convert_bytes (A : Option Addr) (n c : Nat) (bs : List UInt8) (w : World) (hr : Rd w 1 A n (bs.map byteV)) : (convert 22 9 (.slice A n c)).run Tryd.prog w = .ok (.string (str bs)) w := by
  have hl := hr.len1
  by_cases hn : 0 < n
  · obtain ⟨b, off, rfl, hc⟩ := hr.2.2 hn
    rw [run_convert_bytes_arg w 22 5 und22s und5s b off n c (bs.map fun b => (b.toNat : Int)) (by rw [List.length_map, hl]) (fun i hi => ?_) 9 und9s]
    · congr 2
      unfold strOfNums str
      congr 2
      rw [List.map_map]
      conv => rhs; rw [← List.map_id bs]
      refine List.map_congr_left fun b _ => ?_
      simp
    · refine hc i _ ?_
      rw [List.getD_eq_getElem?_getD, List.getElem?_map, List.getElem?_map, List.getElem?_eq_getElem (by omega)]
      rfl
  · obtain rfl : n = 0 := by omega
    obtain rfl : bs = [] := List.eq_nil_of_length_eq_zero hl
    cases A with
    | none => exact run_convert_bytes_nil w 22 5 und22s und5s 0 c 9 und9s
    | some a =>
      rw [run_convert_bytes_string w 22 9 5 _ 0 c und22s und5s und9s, run_bytesToString w a 0 c [] (by simp [loadCells, loadCellsFrom])]
      rfl
theorem str_beq (a b : List UInt8) : ((str a).toList == (str b).toList) = decide (a = b) := by
  rw [ByteArray.toList_eq, ByteArray.toList_eq]
  simp only [str]
  exact Bool.eq_iff_iff.2 (by simp)

end
section
open Go.RowKit Go.Sort
open Go
theorem wpAnyH_inv2 {P : Program} {md : Region.Mode} {ops : Array Oper} {Q : Exit → Act → World → Prop} {S : World → Prop} (I : Array Bool → Act → World → Prop)
    (hstep : ∀ listed a w, I listed a w → ∀ i, listed.getD i true = false → (∃ o, ops[i]? = some o ∧ (o.after.toList.all fun e => !Region.binds md e || listed.getD e.on false) = true) → wpOp P ops Q i (fun a' w' => S w' ∧ I (listed.setIfInBounds i true) a' w') a w)
    (hfin : ∀ listed a w, I listed a w → (∀ i o, ops[i]? = some o → listed.getD i true = false → (o.after.toList.all fun e => !Region.binds md e || listed.getD e.on false) = false) → Q .normal a w) (hsz : ∀ l a w, I l a w → ops.size ≤ l.size) :
    ∀ (fuel : Nat) (listed : Array Bool) (a : Act) (w : World), ((listed.toList.take ops.size).countP (· == false)) ≤ fuel → I listed a w → wpAnyH P md ops Q S fuel listed a w := by
  have fin : ∀ listed a w, I listed a w → Region.ready md ops listed = [] → Q .normal a w := by
    intro listed a w h hr
    refine hfin _ _ _ h fun i o ho hun => ?_
    cases hb : (o.after.toList.all fun e => !Region.binds md e || listed.getD e.on false) with
    | false => rfl
    | true =>
      have : i ∈ Region.ready md ops listed := mem_ready.2 ⟨hun, o, ho, depsB_spec.1 hb⟩
      rw [hr] at this
      cases this
  have pos : ∀ listed a w, I listed a w → ∀ i o, ops[i]? = some o → listed.getD i true = false → 0 < (listed.toList.take ops.size).countP (· == false) := by
    intro listed a w h i o ho hun
    have hlt : i < ops.size := (Array.getElem?_eq_some_iff.1 ho).1
    have hs := hsz _ _ _ h
    have hf : listed[i]'(by omega) = false := by
      have : i < listed.size := by omega
      simpa [this] using hun
    exact List.countP_pos_iff.2 ⟨listed[i]'(by omega), List.mem_iff_getElem?.2 ⟨i, by rw [List.getElem?_take, if_pos hlt]; simp [show i < listed.size by omega]⟩, by simp [hf]⟩
  intro fuel
  induction fuel with
  | zero =>
    intro listed a w hc h
    have hr : Region.ready md ops listed = [] := by
      rcases hL : Region.ready md ops listed with _ | ⟨i, r⟩
      · rfl
      · exfalso
        have hi : i ∈ Region.ready md ops listed := by rw [hL]; simp
        obtain ⟨hun, o, ho, _⟩ := mem_ready.1 hi
        have := pos _ _ _ h i o ho hun
        omega
    exact ⟨hr, fin _ _ _ h hr⟩
  | succ fuel ih =>
    intro listed a w hc h
    refine ⟨fun hr => fin _ _ _ h hr, fun i hi => ?_⟩
    obtain ⟨hun, o, ho, hd⟩ := mem_ready.1 hi
    have hlt : i < ops.size := (Array.getElem?_eq_some_iff.1 ho).1
    have hs := hsz _ _ _ h
    have hlt' : i < listed.size := by omega
    have hf : listed[i] = false := by simpa [hlt'] using hun
    have hp := pos _ _ _ h i o ho hun
    refine wpOp_mono (fun a' w' h' => ⟨h'.1, ih _ a' w' ?_ h'.2⟩) (hstep _ _ _ h i hun ⟨o, ho, depsB_spec.2 hd⟩)
    have e : ((listed.setIfInBounds i true).toList.take ops.size) = (listed.toList.take ops.size).set i true := by simp [List.take_set]
    rw [e, List.countP_set (by simp; omega)]
    have hg : (listed.toList.take ops.size)[i]'(by simp; omega) = false := by simp [hf]
    rw [hg]
    simp only [BEq.rfl, if_true]
    have h0 : (if (true == false) = true then 1 else 0) = 0 := rfl
    rw [h0]
    omega
end
section
open Go.RowKit Go.Sort
def pbytes (x y : Sum32) : List UInt8 := 1 :: x.1 ++ y.1
def inpF : List Nat → Sum32 → List Sum32 → List (List UInt8)
  | s :: ss, x, a :: t => (if s = 1 then pbytes a x else pbytes x a) :: inpF ss (if s = 1 then pairS a x else pairS x a) t
  | _, _, _ => []
def inputsL (n i : Nat) (bs : List UInt8) (p : List Sum32) : List (List UInt8) := (0 :: bs) :: inpF (sidesL n i) (leafS bs) p
theorem inpF_step (ss : List Nat) (p : List Sum32) (k s : Nat) (a x : Sum32) (hs : ss[k]? = some s) (ha : p[k]? = some a) :
    inpF (ss.drop k) x (p.drop k) = (if s = 1 then pbytes a x else pbytes x a) :: inpF (ss.drop (k + 1)) (if s = 1 then pairS a x else pairS x a) (p.drop (k + 1)) := by
  obtain ⟨l1, e1⟩ := List.getElem?_eq_some_iff.1 hs
  obtain ⟨l2, e2⟩ := List.getElem?_eq_some_iff.1 ha
  rw [List.drop_eq_getElem_cons l1, List.drop_eq_getElem_cons l2, e1, e2]
  rfl
theorem inpF_end (ss : List Nat) (p : List Sum32) (k : Nat) (x : Sum32) (h : ss.length ≤ k ∨ p.length ≤ k) : inpF (ss.drop k) x (p.drop k) = [] := by
  rcases h with h | h
  · rw [List.drop_of_length_le h]
    cases p.drop k <;> rfl
  · rw [List.drop_of_length_le h]
    cases ss.drop k <;> rfl

theorem sidesF_le : ∀ (f n i : Nat), (sidesF f n i).length ≤ f
  | 0, _, _ => Nat.le_refl _
  | f + 1, n, i => by
    rw [sidesF]
    have := sidesF_le f ((n + 1) / 2) (i / 2)
    split
    · simp
    · rw [List.length_append]
      split
      · simp; omega
      · split <;> simp <;> omega
theorem sidesL_le (n i : Nat) : (sidesL n i).length ≤ n := sidesF_le n n i
/-- The frame at the first region's calls. -/
def fr40 (cl : Value) (cb n i : Nat) (sl u3 u4 u5 u12 u15 u18 u19 : Value) : Act := { tmps := #[cl, .pointer (some ⟨cb, 0, none⟩), .slice none 0 0, u3, u4, u5, undef, undef, .pointer (some ⟨cb, 0, none⟩), .int .i64 (n : Int), .pointer (some ⟨cb, 1, none⟩), .int .i64 (i : Int), u12, .pointer (some ⟨cb, 2, none⟩), sl, u15, .pointer (some ⟨cb, 2, none⟩), sl, u18, u19, undef, undef, undef, undef, undef, undef, undef, undef, undef, undef, undef, undef, undef, undef, undef, undef, undef, undef, undef, undef, undef, undef, undef, undef, undef, undef, undef, undef, undef, undef, undef, undef, undef, undef, undef, undef, undef, undef, undef], defers := [] }
def In1 (w1 : World) (cl : Value) (cb n i : Nat) (sl : Value) (bs : List UInt8) (L : Array Bool) (a : Act) (W : World) : Prop :=
  ∃ (l4 l7 l10 l11 l12 l13 l14 l15 : Bool) (u3 u4 u5 u12 u15 u18 u19 : Value), L = #[true, true, true, true, l4, true, true, l7, true, true, l10, l11, l12, l13, l14, l15] ∧ a = fr40 cl cb n i sl u3 u4 u5 u12 u15 u18 u19 ∧ Below w1.heap.size w1 W ∧
    (l4 = true → ∃ A c, u12 = .slice A (sidesL n i).length c ∧ TRd W 3 1 A (sidesL n i).length ((sidesL n i).map natV)) ∧
    (l7 = true → u15 = .agg (sumC (leafS bs)).toArray) ∧
    (l10 = true → ∃ A c, u18 = .slice A (1 + bs.length) c ∧ 1 + bs.length ≤ c ∧ TRd W 5 1 A (1 + bs.length) ((0 :: bs).map byteV)) ∧
    (l11 = true → ∃ A c b, u19 = .slice (some ⟨b, 0, none⟩) 1 1 ∧ w1.heap.size ≤ b ∧ Blk W b 22 #[.slice A (1 + bs.length) c] ∧ 1 + bs.length ≤ c ∧ TRd W 5 1 A (1 + bs.length) ((0 :: bs).map byteV)) ∧
    (l12 = true → ∃ b C, u4 = .pointer (some ⟨b, 0, none⟩) ∧ w1.heap.size ≤ b ∧ Blk W b 26 C ∧ C.size = 32 ∧ (l14 = true → C = (sumC (leafS bs)).toArray)) ∧
    (l13 = true → u3 = u12) ∧ (l15 = true → u5 = u19) ∧ (l13 = true → l4 = true) ∧ (l14 = true → l12 = true) ∧ (l15 = true → l11 = true)
theorem AppZ.own_ne {w : World} {base e t sz n g : Nat} {v : Value} {xs : List Value} {cs : Array Value} (h : AppZ w base e sz v n xs) (hn : 0 < n) (hg : Blk w g t cs) (hne : t ≠ e) : some g ≠ v.ownBlock := by
  intro e'
  obtain ⟨A, c, rfl, _, _⟩ := h.rd
  cases A with
  | none => cases e'
  | some a =>
    obtain ⟨b, o, s⟩ := a
    simp only [Value.ownBlock, Option.some.injEq] at e'
    subst e'
    rcases h with ⟨h0, _⟩ | ⟨_, ⟨hv, _⟩ | ⟨g', cap, cur, hv, hb, hgg, _⟩⟩
    · omega
    · cases hv
    · cases hv
      exact (Blk.ne hg hgg hne) rfl
theorem Ins.snoc {w : World} {vs : List Sl} {cs : List (List UInt8)} (h : Ins w vs cs) {v : Sl} {c : List UInt8} (hr : TRd w 5 1 v.a v.n (c.map byteV)) (hc : v.n ≤ v.c) : Ins w (vs ++ [v]) (cs ++ [c]) := by
  refine ⟨by simp [h.1], fun k v' c' hv hc' => ?_⟩
  by_cases hk : k < vs.length
  · rw [List.getElem?_append_left hk] at hv
    rw [List.getElem?_append_left (by rw [← h.1]; exact hk)] at hc'
    exact h.2 k v' c' hv hc'
  · rw [List.getElem?_append_right (by omega)] at hv
    rw [List.getElem?_append_right (by rw [← h.1]; omega), ← h.1] at hc'
    have h0 : k - vs.length = 0 := by
      rcases Nat.eq_zero_or_pos (k - vs.length) with h0 | h0
      · exact h0
      · rw [List.getElem?_eq_none (by simp; omega)] at hv
        cases hv
    rw [h0] at hv hc'
    cases hv; cases hc'
    exact ⟨hr, hc⟩
theorem step_buildE {P : Program} {ops : Array Oper} {Q : Exit → Act → World → Prop} {o : Oper} {a : Act} {w : World} {K : Act → World → Prop} {E : Prop} (hg : o.guard = none) (t : TypeId) (x : Operand) (e : TypeId) (v : Value) (ho : o.op = .buildSlice t 1 #[(0, x)]) (hx : a.eval x = v)
    (hrun : ∀ w : World, (Instr.buildSlice t 1 #[(0, v)]).run P w = .ok (.slice (some ⟨w.heap.size, 0, none⟩) 1 1) (w.alloc (.cells #[v] e)))
    (h : K (a.put o.dst (.slice (some ⟨w.heap.size, 0, none⟩) 1 1)) (w.alloc (.cells #[v] e))) : if Region.wanted o (yielded ops a.tmps) = true then Oper.wp P o a w K Q else E := by
  have hw : Region.wanted o (yielded ops a.tmps) = true := by simp [Region.wanted, hg]
  rw [if_pos hw]
  unfold Oper.wp execOp
  simp only [ho, Sem.run_bind, Sem.run_pure, Result.andThen_ok, List.map_toArray, List.map_cons, List.map_nil, hx, hrun]
  exact h

theorem shaS_ne {x y : List UInt8} (h : sha x ≠ sha y) : decide (shaS x = shaS y) = false := decide_eq_false fun e => h (congrArg Subtype.val e)
theorem shaS_eq {x y : List UInt8} (h : sha x = sha y) : decide (shaS x = shaS y) = true := decide_eq_true (Subtype.ext h)
theorem Ins.lst {w : World} {A : Option Addr} {n : Nat} {vs : List Sl} {cs : List (List UInt8)} (hr : Rd w 1 A n (vs.map slV)) (h : Ins w vs cs) : Lst w A n cs :=
  ⟨vs, hr, by rw [← h.1]; exact hr.len1, fun k v c hv hc => ⟨(h.2 k v c hv hc).1.1, (h.2 k v c hv hc).2⟩⟩
theorem inpF_bound : ∀ (ss : List Nat) (x : Sum32) (p : List Sum32) (l : List UInt8), l ∈ inpF ss x p → l.length = 65
  | [], _, _, l, h => by cases h
  | _ :: _, _, [], l, h => by cases h
  | s :: ss, x, a :: t, l, h => by
    rw [inpF] at h
    rcases List.mem_cons.1 h with h | h
    · subst h
      have := a.2
      have := x.2
      split <;> simp [pbytes] <;> omega
    · exact inpF_bound ss _ t l h
theorem inputsL_bound (n i : Nat) (bs : List UInt8) (p : List Sum32) (h : bs.length ≤ 1000) : ∀ l ∈ inputsL n i bs p, l.length ≤ 1001 := fun l hl => by
  rcases List.mem_cons.1 hl with h1 | h1
  · subst h1; simp; omega
  · rw [inpF_bound _ _ _ l h1]; omega
theorem inpF_len : ∀ (ss : List Nat) (x : Sum32) (p : List Sum32), (inpF ss x p).length ≤ ss.length
  | [], _, _ => Nat.le_refl _
  | _ :: _, _, [] => by simp [inpF]
  | s :: ss, x, a :: t => by rw [inpF]; have := inpF_len ss (if s = 1 then pairS a x else pairS x a) t; simp; omega
theorem inputsL_len (n i : Nat) (bs : List UInt8) (p : List Sum32) : (inputsL n i bs p).length ≤ n + 1 := by
  have := inpF_len (sidesL n i) (leafS bs) p
  have := sidesL_le n i
  unfold inputsL
  simp; omega

theorem pbytes_inj {a x a' x' : Sum32} (h : pbytes a x = pbytes a' x') : a = a' ∧ x = x' := by
  unfold pbytes at h
  simp only [List.cons_append, List.cons.injEq, true_and] at h
  obtain ⟨h1, h2⟩ := List.append_inj h (by rw [a.2, a'.2])
  exact ⟨Subtype.ext h1, Subtype.ext h2⟩
theorem pairS_sha (a x : Sum32) : (pairS a x).1 = sha (pbytes a x) := rfl
theorem fold_clash : ∀ (ss : List Nat) (x x' : Sum32) (p p' : List Sum32) (rt : Sum32), foldS ss x p = some rt → foldS ss x' p' = some rt →
    (x = x' ∧ p = p') ∨ ∃ (j : Nat) (u v : List UInt8), (inpF ss x p)[j]? = some u ∧ (inpF ss x' p')[j]? = some v ∧ u ≠ v ∧ sha u = sha v
  | [], x, x', p, p', rt, h, h' => by
    cases p with
    | cons a t => cases h
    | nil => cases p' with
      | cons a t => cases h'
      | nil =>
        simp only [foldS, Option.some.injEq] at h h'
        exact .inl ⟨h.trans h'.symm, rfl⟩
  | s :: ss, x, x', p, p', rt, h, h' => by
    cases p with
    | nil => cases h
    | cons a t => cases p' with
      | nil => cases h'
      | cons a' t' =>
        rw [foldS] at h h'
        rcases fold_clash ss _ _ t t' rt h h' with ⟨h1, h2⟩ | ⟨j, u, v, h1, h2, h3, h4⟩
        · subst h2
          have hsh : sha (if s = 1 then pbytes a x else pbytes x a) = sha (if s = 1 then pbytes a' x' else pbytes x' a') := by
            have := congrArg Subtype.val h1
            by_cases hs : s = 1
            · rw [if_pos hs, if_pos hs] at this ⊢
              exact this
            · rw [if_neg hs, if_neg hs] at this ⊢
              exact this
          by_cases he : (if s = 1 then pbytes a x else pbytes x a) = (if s = 1 then pbytes a' x' else pbytes x' a')
          · left
            by_cases hs : s = 1
            · rw [if_pos hs, if_pos hs] at he
              obtain ⟨e1, e2⟩ := pbytes_inj he
              exact ⟨e2, by rw [e1]⟩
            · rw [if_neg hs, if_neg hs] at he
              obtain ⟨e1, e2⟩ := pbytes_inj he
              exact ⟨e1, by rw [e2]⟩
          · exact .inr ⟨0, _, _, rfl, rfl, he, hsh⟩
        · exact .inr ⟨j + 1, u, v, by rw [inpF, List.getElem?_cons_succ]; exact h1, by rw [inpF, List.getElem?_cons_succ]; exact h2, h3, h4⟩
theorem forge (n i : Nat) (hi : i < n) (bs bs' : List UInt8) (p p' : List Sum32) (rt : Sum32) (h : chkL n i (leafS bs) p = some rt) (h' : chkL n i (leafS bs') p' = some rt) (hne : ¬ (bs = bs' ∧ p = p')) :
    ∃ (a b : Nat) (x y : List UInt8), b < a ∧ (inputsL n i bs p ++ inputsL n i bs' p')[a]? = some x ∧ (inputsL n i bs p ++ inputsL n i bs' p')[b]? = some y ∧ x ≠ y ∧ sha x = sha y := by
  rw [chk_sides n n i _ _ (Nat.le_refl _) hi] at h h'
  have key : ∃ (j : Nat) (u v : List UInt8), (inputsL n i bs p)[j]? = some u ∧ (inputsL n i bs' p')[j]? = some v ∧ u ≠ v ∧ sha u = sha v := by
    rcases fold_clash _ _ _ _ _ _ h h' with ⟨h1, h2⟩ | ⟨j, u, v, h1, h2, h3, h4⟩
    · refine ⟨0, 0 :: bs, 0 :: bs', rfl, rfl, fun e => hne ⟨by injection e, h2⟩, ?_⟩
      exact congrArg Subtype.val h1
    · exact ⟨j + 1, u, v, by unfold inputsL; rw [List.getElem?_cons_succ]; exact h1, by unfold inputsL; rw [List.getElem?_cons_succ]; exact h2, h3, h4⟩
  obtain ⟨j, u, v, h1, h2, h3, h4⟩ := key
  have hj : j < (inputsL n i bs p).length := (List.getElem?_eq_some_iff.1 h1).1
  refine ⟨(inputsL n i bs p).length + j, j, v, u, by omega, ?_, ?_, fun e => h3 e.symm, h4.symm⟩
  · rw [List.getElem?_append_right (by omega), Nat.add_sub_cancel_left]; exact h2
  · rw [List.getElem?_append_left hj]; exact h1
end
section
open Go Go.RowKit Go.Sort
variable {P : Program} {Q : Exit → Act → World → Prop} {l : List Oper} {w0 : World}
theorem eval_put_self {a : Act} {d : Nat} {v : Value} (h : d < a.tmps.size) : (a.put (some d) v).eval (.tmp d) = v := by
  unfold Act.eval Act.put
  simp only [Array.getD_eq_getD_getElem?, Array.getElem?_setIfInBounds_self]
  rw [if_pos h]; rfl
theorem eval_put_other {a : Act} {d t : Nat} {v : Value} (h : t ≠ d) : (a.put (some d) v).eval (.tmp t) = a.eval (.tmp t) := by
  unfold Act.eval Act.put
  simp only [Array.getD_eq_getD_getElem?]
  rw [Array.getElem?_setIfInBounds_ne (fun e => h e.symm)]
theorem put_comm {a : Act} {d e : Nat} {u v : Value} (h : d ≠ e) : (a.put (some d) u).put (some e) v = (a.put (some e) v).put (some d) u := by
  unfold Act.put
  simp only
  rw [Array.setIfInBounds_comm u v h]
theorem two_vars {L : Array Bool} {a : Act} {W : World} (hE : Ext w0 W) (i j k m : Nat) (oi oj ok om : Oper) (hoi : l[i]? = some oi) (hoj : l[j]? = some oj) (hok : l[k]? = some ok) (hom : l[m]? = some om)
    (hr0 : Region.ready .any l.toArray L = [i, j]) (hr1 : Region.ready .any l.toArray (L.setIfInBounds i true) = [j]) (hr2 : Region.ready .any l.toArray (L.setIfInBounds j true) = [i])
    (hr3 : Region.ready .any l.toArray ((L.setIfInBounds i true).setIfInBounds j true) = [k]) (hr4 : Region.ready .any l.toArray (((L.setIfInBounds i true).setIfInBounds j true).setIfInBounds k true) = [m])
    (hr5 : Region.ready .any l.toArray ((((L.setIfInBounds i true).setIfInBounds j true).setIfInBounds k true).setIfInBounds m true) = [])
    (hij : i ≠ j) (di dj y1 y2 : Nat) (hd : di ≠ dj) (hdi : di < a.tmps.size) (hdj : dj < a.tmps.size) (hy1 : y1 ≠ di ∧ y1 ≠ dj) (hy2 : y2 ≠ di ∧ y2 ≠ dj)
    (hsi : oi.dst = some di) (hsj : oj.dst = some dj) (hsk : ok.dst = none) (hsm : om.dst = none) (hgi : oi.guard = none) (hgj : oj.guard = none) (hgk : ok.guard = none) (hgm : om.guard = none)
    (T U : TypeId) (hpi : oi.op = .alloc T) (hpj : oj.op = .alloc U) (hpk : ok.op = .store T (.tmp di) (.tmp y1)) (hpm : om.op = .store U (.tmp dj) (.tmp y2))
    (Z ZU : Array Value) (z zu : Value) (ti tu : TypeInfo) (hti : P.info? T = some ti) (htu : P.info? U = some tu) (hz : ti.zero = some z) (hzu : tu.zero = some zu) (hzc : z.cells = Z) (hzuc : zu.cells = ZU)
    (C1 C2 : Array Value) (e1 : a.eval (.tmp y1) = .agg C1) (e2 : a.eval (.tmp y2) = .agg C2) (hc1 : (P.info? T).map (·.size) = some C1.size) (hc2 : (P.info? U).map (·.size) = some C2.size) (hl1 : Z.size = C1.size) (hl2 : ZU.size = C2.size) (ho1 : C1.all (·.oneCell') = true) (ho2 : C2.all (·.oneCell') = true)
    (h : ∀ (B B' : Nat) (W' : World), B ≠ B' → W.heap.size ≤ B → W.heap.size ≤ B' → Below W.heap.size W W' → Blk W' B T C1 → Blk W' B' U C2 → Q .normal ((a.put (some di) (.pointer (some ⟨B, 0, none⟩))).put (some dj) (.pointer (some ⟨B', 0, none⟩))) W') :
    wpAnyH P .any l.toArray Q (Ext w0) 4 L a W := by
  have fin : ∀ (B B' : Nat) (W1 : World), B ≠ B' → W.heap.size ≤ B → W.heap.size ≤ B' → Below W.heap.size W W1 → Blk W1 B T Z → Blk W1 B' U ZU → wpAnyH P .any l.toArray Q (Ext w0) 2 ((L.setIfInBounds i true).setIfInBounds j true) ((a.put (some di) (.pointer (some ⟨B, 0, none⟩))).put (some dj) (.pointer (some ⟨B', 0, none⟩))) W1 := by
    intro B B' W1 hne hB hB' hb g1 g2
    have k1 := (KeptIn.refl (fun k => k ≠ B) W1).setRow (g := B) (fun h => h rfl) C1
    have b1 := Below.setRow hb hB C1
    have q1 : Blk (W1.setRow B C1) B T C1 := setRow_heap _ _ _ _ _ _ g1
    have q2 := g2.keptIn k1 (fun e => hne e.symm)
    have k2 := (KeptIn.refl (fun k => k ≠ B') (W1.setRow B C1)).setRow (g := B') (fun h => h rfl) C2
    have b2 := Below.setRow b1 hB' C2
    have q3 : Blk ((W1.setRow B C1).setRow B' C2) B' U C2 := setRow_heap _ _ _ _ _ _ q2
    have q4 := q1.keptIn k2 hne
    refine wpAnyH_one hr3 hok fun K hK => ?_
    refine step_store_row hgk T (.tmp di) (.tmp y1) hpk B C1 (by rw [eval_put_other hd, eval_put_self hdi]) (by rw [eval_put_other hy1.2, eval_put_other hy1.1, e1]) T Z g1 hc1 hl1 ho1 ?_
    rw [hsk]
    refine hK _ _ (ext_trans hE (ext_of b1)) ?_
    refine wpAnyH_one hr4 hom fun K hK => ?_
    refine step_store_row hgm U (.tmp dj) (.tmp y2) hpm B' C2 (eval_put_self (by simpa [Act.put] using hdj)) (by show Act.eval ((a.put (some di) _).put (some dj) _) (.tmp y2) = _; rw [eval_put_other hy2.2, eval_put_other hy2.1, e2]) U ZU q2 hc2 hl2 ho2 ?_
    rw [hsm]
    refine hK _ _ (ext_trans hE (ext_of b2)) ?_
    exact ⟨hr5, h B B' _ hne hB hB' b2 q4 q3⟩
  refine wpAnyH_two hr0 hoi hoj (fun K hK => ?_) (fun K hK => ?_)
  · rw [if_pos (by simp [Region.wanted, hgi])]
    refine val_alloc (R := fun v W' => v = .pointer (some ⟨W.heap.size, 0, none⟩) ∧ W' = W.alloc (.cells Z T)) T hpi Z z ti hti hz hzc ⟨rfl, rfl⟩ K ?_
    rintro v W' ⟨hb, rfl, rfl⟩
    rw [hsi]
    refine hK _ _ (ext_trans hE (ext_of hb)) ?_
    refine wpAnyH_one hr1 hoj fun K2 hK2 => ?_
    rw [if_pos (by simp [Region.wanted, hgj])]
    refine val_alloc (R := fun v W' => v = .pointer (some ⟨(W.alloc (.cells Z T)).heap.size, 0, none⟩) ∧ W' = (W.alloc (.cells Z T)).alloc (.cells ZU U)) U hpj ZU zu tu htu hzu hzuc ⟨rfl, rfl⟩ K2 ?_
    rintro v W' ⟨hb2, rfl, rfl⟩
    rw [hsj]
    have hb3 := hb.trans (hb2.mono hb.size)
    refine hK2 _ _ (ext_trans hE (ext_of hb3)) ?_
    exact fin _ _ _ (by rw [World.size_alloc]; omega) (Nat.le_refl _) (by rw [World.size_alloc]; omega) hb3 ((Blk.new _ _ _).alloc _) (Blk.new _ _ _)
  · rw [if_pos (by simp [Region.wanted, hgj])]
    refine val_alloc (R := fun v W' => v = .pointer (some ⟨W.heap.size, 0, none⟩) ∧ W' = W.alloc (.cells ZU U)) U hpj ZU zu tu htu hzu hzuc ⟨rfl, rfl⟩ K ?_
    rintro v W' ⟨hb, rfl, rfl⟩
    rw [hsj]
    refine hK _ _ (ext_trans hE (ext_of hb)) ?_
    refine wpAnyH_one hr2 hoi fun K2 hK2 => ?_
    rw [if_pos (by simp [Region.wanted, hgi])]
    refine val_alloc (R := fun v W' => v = .pointer (some ⟨(W.alloc (.cells ZU U)).heap.size, 0, none⟩) ∧ W' = (W.alloc (.cells ZU U)).alloc (.cells Z T)) T hpi Z z ti hti hz hzc ⟨rfl, rfl⟩ K2 ?_
    rintro v W' ⟨hb2, rfl, rfl⟩
    rw [hsi]
    have hb3 := hb.trans (hb2.mono hb.size)
    refine hK2 _ _ (ext_trans hE (ext_of hb3)) ?_
    rw [Array.setIfInBounds_comm _ _ (fun e => hij e.symm), put_comm (fun e => hd e.symm)]
    exact fin _ _ _ (by rw [World.size_alloc]; omega) (by rw [World.size_alloc]; omega) (Nat.le_refl _) hb3 (Blk.new _ _ _) ((Blk.new _ _ _).alloc _)
/-- A struct of known parts, quiet, under a guard that holds. -/
theorem wpQuiet_buildN_g {ops : Array Oper} {rest : List Oper} {op : Oper} {a : Act} {C : World → Prop} {Q1 : Act → Prop} (hw : Region.wanted op (yielded ops a.tmps) = true) (t : TypeId) (parts : Array (Nat × Operand)) (ho : op.op = .build t parts)
    (vals : List (Nat × Value)) (hv : parts.toList.map (fun (x : Nat × Operand) => (x.fst, a.eval x.snd)) = vals) (Z : Array Value) (hZ : P.built t vals = some Z)
    (h : wpQuiet P ops C Q1 rest (a.put op.dst (.agg Z))) : wpQuiet P ops C Q1 (op :: rest) a := by
  unfold wpQuiet
  rw [if_pos hw]
  refine ⟨_, fun w hC => ?_, h⟩
  unfold Oper.quietAt execOp
  simp only [ho, Sem.run_bind]
  rw [show parts.map (fun (x : Nat × Operand) => (x.fst, a.eval x.snd)) = vals.toArray from by subst hv; obtain ⟨l⟩ := parts; simp only [List.map_toArray], run_build w t _ Z hZ]
  exact ⟨rfl, rfl⟩
end
section
open Go.RowKit Go.Sort
variable {P : Program} {Q : Exit → Act → World → Prop} {o : Oper} {a : Act} {W : World}
theorem val_appe {R : Value → World → Prop} (hg : o.guard = none) (s x : Operand) (t : TypeId) (hop : o.op = Op.call { callee := Callee.builtin Builtin.append, args := #[s, x], argTypes := #[t, t] })
    (e : TypeId) (i : TypeInfo) (z : Value) (sz bytes : Nat) (ht : P.underlying t = some (.slice e)) (hi : P.info? e = some i) (hz : i.zero = some z) (hs : i.size = sz) (hby : i.bytes = bytes) (hzs : z.cells.size = sz) (hsz : 0 < sz)
    (base B : Nat) (hb : base ≤ B) (hB : Blk W B e #[]) (hv : a.eval s = .slice (some ⟨B, 0, none⟩) 0 0) (A : Option Addr) (m c : Nat) (news : List Value) (hx : a.eval x = .slice A m c) (hrd : Rd W sz A m news)
    (h63 : m ≤ maxLen) (hbytes : m * bytes ≤ 140737488355328)
    (hR : ∀ v' w', AppZ w' base e sz v' m news → (∀ k, v'.ownBlock = some k → ∃ cur, Blk w' k e cur) → R v' w') : Val P Q o a W (fun v W' => Below W.heap.size W W' ∧ R v W') := fun K hK => by
  have h := step_appe (ops := #[]) (E := True) (K := K) (Q := Q) hg s x t hop e i z sz bytes ht hi hz hs hby hzs hsz base B hb hB hv A m c news hx hrd h63 hbytes (fun v' w' h1 h2 h3 => hK v' w' ⟨h2, hR v' w' h1 h3⟩)
  rwa [if_pos (by simp [Region.wanted, hg])] at h
theorem val_appz {R : Value → World → Prop} (hg : o.guard = none) (s x : Operand) (t : TypeId) (hop : o.op = Op.call { callee := Callee.builtin Builtin.append, args := #[s, x], argTypes := #[t, t] })
    (e : TypeId) (i : TypeInfo) (z : Value) (sz bytes : Nat) (ht : P.underlying t = some (.slice e)) (hi : P.info? e = some i) (hz : i.zero = some z) (hs : i.size = sz) (hby : i.bytes = bytes) (hzs : z.cells.size = sz) (hsz : 0 < sz)
    (base : Nat) (hbase : base ≤ W.heap.size) (v : Value) (n : Nat) (xs : List Value) (hv : a.eval s = v) (h : AppZ W base e sz v n xs) (A : Option Addr) (m c : Nat) (news : List Value) (hx : a.eval x = .slice A m c) (hrd : Rd W sz A m news) (h1 : ∀ u ∈ news, u.oneCell' = true)
    (h63 : n + m ≤ maxLen) (hbytes : (n + m) * bytes ≤ 140737488355328)
    (hR : ∀ v' w', AppZ w' base e sz v' (n + m) (xs ++ news) → W.grownBy w' v.ownBlock → R v' w') : Val P Q o a W R := fun K hK => by
  have h := step_appz (ops := #[]) (E := True) (K := K) (Q := Q) hg s x t hop e i z sz bytes ht hi hz hs hby hzs hsz base hbase v n xs hv h A m c news hx hrd h1 h63 hbytes (fun v' w' h1 h2 => hK v' w' (hR v' w' h1 h2))
  rwa [if_pos (by simp [Region.wanted, hg])] at h
theorem val_nil {R : Value → World → Prop} {t T : TypeId} (ho : o.op = .buildSlice t 0 #[]) (hr : ∀ w : World, (Instr.buildSlice t 0 #[]).run P w = .ok (.slice (some ⟨w.heap.size, 0, none⟩) 0 0) (w.alloc (.cells #[] T))) (h : R (.slice (some ⟨W.heap.size, 0, none⟩) 0 0) (W.alloc (.cells #[] T))) : Val P Q o a W (fun v W' => Below W.heap.size W W' ∧ R v W') := fun K hK => by
  unfold Oper.wp execOp
  simp only [ho, Sem.run_bind, List.map_toArray, List.map_nil, hr, Sem.run_pure, Result.andThen_ok]
  exact hK _ _ ⟨(Below.refl _ _).alloc (Nat.le_refl _) _, h⟩
end
section
open Go.RowKit Go.Sort
def spVar (T : TypeId) (Z : Array Value) : Spec := ⟨fun v W => ∃ B, v = .pointer (some ⟨B, 0, none⟩) ∧ Blk W B T Z, fun _ _ _ ⟨B, h1, h2⟩ hb => ⟨B, h1, h2.below hb h2.lt⟩⟩
theorem AppZ.keptIn {w w' : World} {base e sz n g t : Nat} {v : Value} {xs : List Value} {old : Array Value} (h : AppZ w base e sz v n xs) (hg : Blk w g t old) (hne : t ≠ e) (hk : KeptIn (fun k => k ≠ g) w w') : AppZ w' base e sz v n xs := by
  have hgr := hk.grownBut
  rcases h with ⟨h1, h2, a, h3, h4, h5⟩ | h
  · exact .inl ⟨h1, h2, a, h3, h4, Nat.lt_of_lt_of_le h5 hgr.size⟩
  · refine .inr (h.kept hgr ?_)
    rcases h.2 with ⟨rfl, _⟩ | ⟨g', cap, cur, rfl, _, hgg, _⟩
    · exact .inl rfl
    · exact .inr fun e' => by
        have : g' = g := by simpa [Value.ownBlock] using e'
        subst this
        exact (Blk.ne hg hgg hne) rfl
/-- Whose block is of a type. -/
def OwnB (w : World) (e : TypeId) (v : Value) : Prop := ∀ g, v.ownBlock = some g → ∃ cur, Blk w g e cur
theorem OwnB.keptIn {w w' : World} {e t g : Nat} {v : Value} {old : Array Value} (h : OwnB w e v) (hg : Blk w g t old) (hne : t ≠ e) (hk : KeptIn (fun k => k ≠ g) w w') : OwnB w' e v := fun b hb => by
  obtain ⟨cur, hc⟩ := h b hb
  exact ⟨cur, hc.keptIn hk (hc.ne hg (fun e' => hne e'.symm))⟩
theorem OwnB.below {w w' : World} {e : Nat} {v : Value} (h : OwnB w e v) (hb : Below w.heap.size w w') : OwnB w' e v := fun b hv => by
  obtain ⟨cur, hc⟩ := h b hv
  exact ⟨cur, hc.below hb hc.lt⟩
theorem OwnB.of {w : World} {base e sz n : Nat} {v : Value} {xs : List Value} (h : AppZ w base e sz v n xs) (hn : 0 < n) : OwnB w e v := h.row hn

theorem AppZ.grown {w w' : World} {base e sz n t : Nat} {v : Value} {xs : List Value} {row : Option Nat} (h : AppZ w base e sz v n xs) (hg : w.grownBy w' row) (hrow : ∀ g, row = some g → ∃ cur, Blk w g t cur) (hne : t ≠ e) : AppZ w' base e sz v n xs := by
  rcases h with ⟨h1, h2, a, h3, h4, h5⟩ | h
  · exact .inl ⟨h1, h2, a, h3, h4, Nat.lt_of_lt_of_le h5 hg.size⟩
  · refine .inr (h.kept hg ?_)
    rcases h.2 with ⟨rfl, _⟩ | ⟨g', cap, cur, rfl, _, hgg, _⟩
    · exact .inl rfl
    · exact .inr fun e' => by
        obtain ⟨cur', hc⟩ := hrow g' (by simpa [Value.ownBlock] using e'.symm)
        exact (hc.ne hgg hne) rfl
end
end Go.Proofs.YtfdhiilhjfbehaaDoor
