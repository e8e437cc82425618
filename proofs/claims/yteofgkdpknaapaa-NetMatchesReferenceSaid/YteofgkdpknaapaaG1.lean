/- The parts of other chapters' texts that name no function and no type of a seat: slices typed by their blocks, regions that draw their order and lay memory, rows that are built, appended, stored. -/
import Derived.Test.YteofgkdpknaapaaH1
import Derived.Deep.CutBlock
import Derived.Deep.CutRange
import Derived.Great.BuildSlice
import Derived.Laws.BytesArg
import Derived.Laws.MakeOwn
import Derived.Laws.OwnMore
import Derived.BigRegion
import Derived.Deep.Slices
namespace Go.Proofs.Yteofgkdpknaapaa
section
open Go.RowKit
theorem KeptIn.setAt {S : Nat → Prop} {a w : World} (h : KeptIn S a w) {p : Addr} (hp : ¬ S p.block) (v : Value) : KeptIn S a (w.setCell p v) := by
  have hb := (Below.refl 0 w).setCell (p := p) (Nat.zero_le _) v
  exact h.trans ⟨hb.os, hb.tape, hb.output, hb.size, fun k hk => Below.heap_setCell w p v k (fun e => hp (e ▸ hk))⟩

end
section
open Go.RowKit
/-- .. as one step of the walk. -/
theorem wpList_app {P : Program} {ops : Array Oper} {rest : List Oper} {o : Oper} {a : Act} {w : World} {Q : Exit → Act → World → Prop}
    (hg : o.guard = none) (s x : Operand) (t : TypeId) (hop : o.op = Op.call { callee := Callee.builtin Builtin.append, args := #[s, x], argTypes := #[t, t] })
    (e : TypeId) (i : TypeInfo) (z : Value) (bytes : Nat) (ht : P.underlying t = some (.slice e)) (hi : P.info? e = some i) (hz : i.zero = some z) (hs : i.size = 1) (hby : i.bytes = bytes) (hzs : z.cells.size = 1)
    (base : Nat) (hbase : base ≤ w.heap.size) (v : Value) (n : Nat) (xs : List Value) (hv : a.eval s = v) (h : App w base e v n xs) (A : Option Addr) (m c : Nat) (news : List Value) (hx : a.eval x = .slice A m c) (hrd : Rd w 1 A m news) (h1 : ∀ u ∈ news, u.oneCell' = true)
    (h63 : n + m ≤ maxLen) (hbytes : (n + m) * bytes ≤ 140737488355328)
    (hK : ∀ v' w', App w' base e v' (n + m) (xs ++ news) → Below base w w' → wpList P ops Q rest (a.put o.dst v') w') :
    wpList P ops Q (o :: rest) a w := by
  have h2 := step_app (P := P) (ops := ops) (Q := Q) (E := True) (K := wpList P ops Q rest) hg s x t hop e i z bytes ht hi hz hs hby hzs base hbase v n xs hv h A m c news hx hrd h1 h63 hbytes hK
  have hw : Region.wanted o (yielded ops a.tmps) = true := by simp [Region.wanted, hg]
  rw [if_pos hw] at h2
  rw [wpList, if_pos hw]
  exact .inl h2
end
section
open Go.RowKit
theorem Below.setRow {n : Nat} {a w : World} (h : Below n a w) {g : Nat} (hg : n ≤ g) (cs : Array Value) : Below n a (w.setRow g cs) :=
  ⟨h.os, h.tape, h.output, by have := h.size; simpa using this, fun k hk => (setRow_other w g k cs (by omega)).trans (h.block k hk)⟩
end
section
open Go.RowKit
theorem Blk.rd {W : World} {B : Nat} {t : TypeId} {xs : List Value} (h : Blk W B t xs.toArray) (hl : xs.length ≤ 9223372036854775807) : Rd W 1 (some ⟨B, 0, none⟩) xs.length xs :=
  ⟨by simp, hl, fun _ => ⟨B, 0, rfl, fun j u hu => by rw [h.cell, Nat.zero_add]; simpa using hu⟩⟩
end
section
open Go.RowKit
/-- A slice's parts: address, length, capacity. -/
structure Sl where
  a : Option Addr
  n : Nat
  c : Nat
end
section
open Go.RowKit
def slV (s : Sl) : Value := .slice s.a s.n s.c
end
section
open Go.RowKit
/-- A slice of slices of bytes. -/
def Lst (w : World) (A : Option Addr) (n : Nat) (cs : List (List UInt8)) : Prop :=
  ∃ vs : List Sl, Rd w 1 A n (vs.map slV) ∧ cs.length = n ∧ ∀ (k : Nat) (v : Sl) (c : List UInt8), vs[k]? = some v → cs[k]? = some c → Rd w 1 v.a v.n (c.map byteV) ∧ v.n ≤ v.c
end
section
open Go.RowKit
theorem Lst.below {w w' : World} {A : Option Addr} {n : Nat} {cs : List (List UInt8)} (h : Lst w A n cs) (hb : Below w.heap.size w w') : Lst w' A n cs := by
  obtain ⟨vs, h1, h2, h3⟩ := h
  exact ⟨vs, h1.below hb, h2, fun k v c hv hc => ⟨((h3 k v c hv hc).1).below hb, (h3 k v c hv hc).2⟩⟩
end
section
open Go.RowKit
theorem Lst.at_ {w : World} {A : Option Addr} {n k : Nat} {cs : List (List UInt8)} (h : Lst w A n cs) (hk : k < n) :
    ∃ (b off : Nat) (v : Sl) (c : List UInt8), A = some ⟨b, off, none⟩ ∧ cs[k]? = some c ∧ w.cell? ⟨b, off + k, none⟩ = some (.slice v.a v.n v.c) ∧ Rd w 1 v.a v.n (c.map byteV) ∧ v.n ≤ v.c := by
  obtain ⟨vs, h1, h2, h3⟩ := h
  obtain ⟨b, off, v, e, hv, hc⟩ := h1.at_ hk
  have hk' : k < cs.length := by omega
  have := h3 k v cs[k] hv (List.getElem?_eq_getElem hk')
  exact ⟨b, off, v, cs[k], e, List.getElem?_eq_getElem hk', hc, this.1, this.2⟩

end
section
open Go.RowKit
/-- A slice of one element of several cells, known as a list. -/
theorem wpList_build1 {P : Program} {ops : Array Oper} {rest : List Oper} {o : Oper} {a : Act} {w : World} {Q : Exit → Act → World → Prop} (hg : o.guard = none) (t e : TypeId) (x : Operand) (ho : o.op = .buildSlice t 1 #[(0, x)])
    (cells : Array Value) (ie : TypeInfo) (z : Value) (s : Nat) (hu : P.underlying t = some (.slice e)) (hie : P.info? e = some ie) (hz : ie.zero = some z) (hs : ie.size = s) (hpos : 0 < s) (hsm : s ≤ 2 ^ 24)
    (hx : a.eval x = .agg cells) (hc : cells.size = s)
    (h : wpList P ops Q rest (a.put o.dst (.slice (some ⟨w.heap.size, 0, none⟩) 1 1)) (w.alloc (.cells cells e))) : wpList P ops Q (o :: rest) a w := by
  subst hs
  refine wpList_buildSlice hg t e 1 _ ho cells ie z hu hie hz (by omega) (by omega) ?_ h
  have := Great.fill_whole hpos [.agg cells] ((Array.range (1 * ie.size)).map (z.cells[· % z.cells.size]!)) (by simp [Value.cells, hc]) (by simp)
  simpa [hx, Value.cells] using this

end
section
open Go.RowKit Go.Shelf
theorem Rd.lt {w : World} {sz n : Nat} {A : Option Addr} {xs : List Value} (h : Rd w sz A n xs) (hsz : 0 < sz) (hn : 0 < n) {b off : Nat} (hA : A = some ⟨b, off, none⟩) : b < w.heap.size := by
  obtain ⟨b', off', e, hc⟩ := h.2.2 hn
  rw [hA] at e
  cases e
  have hl : 0 < xs.length := by rw [h.1]; exact Nat.mul_pos hn hsz
  exact World.block_lt_of_cell? w ⟨b, off + 0, none⟩ (hc 0 xs[0] (List.getElem?_eq_getElem hl))
end
section
open Go.RowKit
theorem Rd.kept {w w' : World} {sz n : Nat} {A : Option Addr} {xs : List Value} {row : Option Nat} (h : Rd w sz A n xs) (hg : w.grownBy w' row) (hsz : 0 < sz) (hS : ∀ b off, 0 < n → A = some ⟨b, off, none⟩ → some b ≠ row) : Rd w' sz A n xs :=
  h.keptIn (S := fun k => k < w.heap.size ∧ some k ≠ row) ⟨hg.os, hg.tape, hg.output, hg.size, fun k hk => hg.block k hk.1 hk.2⟩ (fun b off hn e => ⟨h.lt hsz hn e, hS b off hn e⟩)
end
section
open Go.RowKit
/-- A load of an array known as a list, under a guard that holds. -/
theorem wpList_load_mid_g {P : Program} {ops : Array Oper} {rest : List Oper} {op : Oper} {a : Act} {w : World} {Q : Exit → Act → World → Prop} (hw : Region.wanted op (yielded ops a.tmps) = true) (ty : TypeId) (x : Operand) (ho : op.op = .load ty x)
    (b o : Nat) (hx : a.eval x = .pointer (some ⟨b, o, none⟩)) (cs : List Value) (d : TypeDesc) (hc : w.rangeAt b o cs)
    (hu : P.underlying ty = some d) (hd : d.isRow = true) (hi : (P.info? ty).map (·.size) = some cs.length)
    (h : wpList P ops Q rest (a.put op.dst (.agg cs.toArray)) w) : wpList P ops Q (op :: rest) a w := by
  rw [wpList, if_pos hw]
  exact .inl (wp_load_mid ty x ho b o hx cs d hc hu hd hi h)
end
section
open Go.RowKit
theorem Blk.range {W : World} {B : Nat} {t : TypeId} {cs : List Value} (h : Blk W B t cs.toArray) : W.rangeAt B 0 cs := fun j v hv => by
  rw [h.cell, Nat.zero_add]; simpa using hv
end
section
open Go.RowKit
/-- A new variable of the array type: its block is opaque. -/
theorem wpList_alloc0 {P : Program} {ops : Array Oper} {rest : List Oper} {o : Oper} {a : Act} {w : World} {Q : Exit → Act → World → Prop} (hg : o.guard = none) (t : TypeId) (ho : o.op = .alloc t) (Z : Array Value) (z : Value) (i : TypeInfo) (hi : P.info? t = some i) (hz : i.zero = some z) (hc : z.cells = Z)
    (h : wpList P ops Q rest (a.put o.dst (.pointer (some ⟨w.heap.size, 0, none⟩))) (w.alloc (.cells Z t))) : wpList P ops Q (o :: rest) a w := by
  subst hc
  refine wpList_plain hg fun K hK => ?_
  unfold Oper.wp execOp
  simp only [ho, Sem.run_bind, Instr.alloc, zeroValue, typeInfo, newVar, newRow, run_newObj_alloc, Sem.run_pure, Result.andThen_ok]
  simp [hi, hz]
  exact hK _ _ h
end
section
open Go.RowKit Go.Sort
def VB (W : World) (base : Nat) (v : Value) (b : Nat) (t : TypeId) (n : Nat) (fin : Bool) (C0 : Array Value) : Prop :=
  v = .pointer (some ⟨b, 0, none⟩) ∧ base ≤ b ∧ b < W.heap.size ∧ ∃ C, Blk W b t C ∧ C.size = n ∧ (fin = true → C = C0)
end
section
open Go.RowKit Go.Sort
theorem VB.below {W W' : World} {base b n : Nat} {v : Value} {t : TypeId} {fin : Bool} {C0 : Array Value} (h : VB W base v b t n fin C0) (hb : Below W.heap.size W W') : VB W' base v b t n fin C0 := by
  obtain ⟨h1, h2, h3, C, h4, h5⟩ := h
  exact ⟨h1, h2, Nat.lt_of_lt_of_le h3 hb.size, C, h4.below hb h3, h5⟩
end
section
open Go.RowKit Go.Sort
theorem VB.new {W : World} {base : Nat} (hb : base ≤ W.heap.size) (Z : Array Value) (t : TypeId) (C0 : Array Value) : VB (W.alloc (.cells Z t)) base (.pointer (some ⟨W.heap.size, 0, none⟩)) W.heap.size t Z.size false C0 :=
  ⟨rfl, hb, by simp, Z, Blk.new _ _ _, rfl, fun h => by cases h⟩
end
section
open Go.RowKit Go.Sort
theorem VB.set {W : World} {base b n : Nat} {v : Value} {t : TypeId} {fin : Bool} {C0 : Array Value} (h : VB W base v b t n fin C0) (hn : C0.size = n) : VB (W.setRow b C0) base v b t n true C0 := by
  obtain ⟨h1, h2, h3, C, h4, h5⟩ := h
  exact ⟨h1, h2, by simpa using h3, C0, setRow_heap _ _ _ _ _ _ h4, hn, fun _ => rfl⟩

end
section
open Go.RowKit Go.Sort
variable {P : Program} {ops : Array Oper} {Q : Exit → Act → World → Prop} {o : Oper} {a : Act} {w : World} {K : Act → World → Prop} {E : Prop}
theorem step_alloc0 (hg : o.guard = none) (t : TypeId) (ho : o.op = .alloc t) (Z : Array Value) (z : Value) (i : TypeInfo) (hi : P.info? t = some i) (hz : i.zero = some z) (hc : z.cells = Z)
    (h : K (a.put o.dst (.pointer (some ⟨w.heap.size, 0, none⟩))) (w.alloc (.cells Z t))) : if Region.wanted o (yielded ops a.tmps) = true then Oper.wp P o a w K Q else E := by
  have hw : Region.wanted o (yielded ops a.tmps) = true := by simp [Region.wanted, hg]
  rw [if_pos hw]
  subst hc
  unfold Oper.wp execOp
  simp only [ho, Sem.run_bind, Instr.alloc, zeroValue, typeInfo, newVar, newRow, run_newObj_alloc, Sem.run_pure, Result.andThen_ok]
  simp [hi, hz]
  exact h
end
section
open Go.RowKit Go.Sort
variable {P : Program} {ops : Array Oper} {Q : Exit → Act → World → Prop} {o : Oper} {a : Act} {w : World} {K : Act → World → Prop} {E : Prop}
theorem step_store_row (hg : o.guard = none) (ty : TypeId) (x y : Operand) (ho : o.op = .store ty x y)
    (g : Nat) (cells : Array Value) (hx : a.eval x = .pointer (some ⟨g, 0, none⟩)) (hy : a.eval y = .agg cells)
    (t : TypeId) (old : Array Value) (hgp : w.heap[g]? = some (.cells old t (0, 0))) (hi : (P.info? ty).map (·.size) = some cells.size)
    (hold : old.size = cells.size) (h1 : cells.all (·.oneCell') = true)
    (h : K (a.put o.dst undef) (w.setRow g cells)) : if Region.wanted o (yielded ops a.tmps) = true then Oper.wp P o a w K Q else E := by
  have hw : Region.wanted o (yielded ops a.tmps) = true := by simp [Region.wanted, hg]
  rw [if_pos hw]
  exact wp_store_row ty x y ho g cells hx hy t old hgp hi hold h1 h
end
section
open Go.RowKit Go.Sort
theorem KeptIn.setRow {S : Nat → Prop} {a w : World} (h : KeptIn S a w) {g : Nat} (hg : ¬ S g) (cs : Array Value) : KeptIn S a (w.setRow g cs) :=
  h.trans ⟨rfl, rfl, rfl, by simp, fun k hk => setRow_other w g k cs (fun e => hg (e ▸ hk))⟩
end
section
open Go.RowKit Go.Sort
/-- A slice whose block has cells of this type. -/
def TRd (w : World) (e : TypeId) (sz : Nat) (A : Option Addr) (n : Nat) (xs : List Value) : Prop := Rd w sz A n xs ∧ (0 < n → ∀ b off, A = some ⟨b, off, none⟩ → ∃ cur, Blk w b e cur)
end
section
open Go.RowKit Go.Sort
theorem TRd.rd {w : World} {e : TypeId} {sz n : Nat} {A : Option Addr} {xs : List Value} (h : TRd w e sz A n xs) : Rd w sz A n xs := h.1
end
section
open Go.RowKit Go.Sort
theorem TRd.below {w w' : World} {e : TypeId} {sz n : Nat} {A : Option Addr} {xs : List Value} (h : TRd w e sz A n xs) (hb : Below w.heap.size w w') : TRd w' e sz A n xs :=
  ⟨h.1.below hb, fun hn b off e => by obtain ⟨cur, hc⟩ := h.2 hn b off e; exact ⟨cur, hc.below hb hc.lt⟩⟩
end
section
open Go.RowKit Go.Sort
theorem App.trd {w : World} {base : Nat} {e : TypeId} {v : Value} {n : Nat} {xs : List Value} (h : App w base e v n xs) : ∃ A c, v = .slice A n c ∧ n ≤ c ∧ TRd w e 1 A n xs := by
  obtain ⟨A, c, rfl, hc, hr⟩ := h.rd
  refine ⟨A, c, rfl, hc, hr, fun hn b off e => ?_⟩
  subst e
  rcases h with ⟨h0, _⟩ | ⟨_, ⟨hv, _⟩ | ⟨g', cap, cur, hv, hb, hgg, _⟩⟩
  · omega
  · cases hv
  · cases hv
    exact ⟨cur, hgg⟩

end
section
open Go.RowKit Go.Sort
theorem TRd.of_own {w : World} {base n c : Nat} {e : TypeId} {sz : Nat} {A : Option Addr} {xs : List Value} (h : w.ownsRow base e sz (.slice A n c) n xs) : TRd w e sz A n xs := by
  refine ⟨Rd.of_own h, fun _ b off hA => ?_⟩
  subst hA
  rcases h.2 with ⟨hv, _⟩ | ⟨g, cap, cur, hv, hb, hg, _⟩
  · cases hv
  · cases hv
    exact ⟨cur, hg⟩
end
section
open Go.RowKit Go.Sort
def natV (k : Nat) : Value := .int .i64 (k : Int)
end
section
open Go.RowKit Go.Sort
theorem oneN (ks : List Nat) : ∀ u ∈ ks.map natV, u.oneCell' = true := fun u hu => by
  obtain ⟨k, _, rfl⟩ := List.mem_map.1 hu
  rfl
end
section
open Go.RowKit Go.Sort
theorem lit_rdE (w : World) (v : Value) (e : TypeId) : Rd (w.alloc (.cells #[v] e)) 1 (some ⟨w.heap.size, 0, none⟩) 1 [v] :=
  ⟨rfl, by omega, fun _ => ⟨_, _, rfl, fun j u hu => by have := cells_new w [v] e j u hu; rwa [Addr.add_mid] at this⟩⟩
end
section
open Go.RowKit Go.Sort
theorem App.litE {w : World} {base n : Nat} {e : TypeId} {v : Value} {xs : List Value} (h : App w base e v n xs) (o : Obj) : App (w.alloc o) base e v n xs := h.below ((Below.refl w.heap.size w).alloc (Nat.le_refl _) o) (Nat.le_refl _)

end
section
open Go.RowKit Go.Sort
theorem ownsRow_set {w : World} {base : Nat} {e : TypeId} {sz : Nat} {v : Value} {n : Nat} {xs : List Value} (h : w.ownsRow base e sz v n xs) {g : Nat} (hg : v.ownBlock = some g) (i : Nat) (u : Value) :
    (w.setCell ⟨g, i, none⟩ u).ownsRow base e sz v n (xs.set i u) := by
  rcases h with ⟨hl, ⟨rfl, _⟩ | ⟨g', cap, cur, rfl, hb, hgg, hnc, hcm, hcs, ht⟩⟩
  · cases hg
  · simp only [Value.ownBlock, Option.some.injEq] at hg
    subst hg
    refine ⟨by rw [List.length_set]; exact hl, .inr ⟨g', cap, cur.setIfInBounds i u, rfl, hb, heap_setCell_same w g' i cur e u hgg, hnc, hcm, by simpa using hcs, ?_⟩⟩
    rw [Array.toList_setIfInBounds, List.take_set, ht]
end
section
open Go.RowKit Go.Sort
theorem ownsRow_blk {w : World} {base : Nat} {e : TypeId} {sz : Nat} {g n c : Nat} {xs : List Value} (h : w.ownsRow base e sz (.slice (some ⟨g, 0, none⟩) n c) n xs) : ∃ cur, Blk w g e cur := by
  rcases h with ⟨_, ⟨hv, _⟩ | ⟨g', cap, cur, hv, hb, hgg, _⟩⟩
  · cases hv
  · cases hv
    exact ⟨cur, hgg⟩
end
section
open Go.RowKit Go.Sort
theorem AppZ.blk {w : World} {base : Nat} {e : TypeId} {sz n c g o : Nat} {xs : List Value} (h : AppZ w base e sz (.slice (some ⟨g, o, none⟩) n c) n xs) (hn : 0 < n) : ∃ cur, Blk w g e cur := by
  rcases h with ⟨rfl, _⟩ | ⟨_, ⟨hv, _⟩ | ⟨g', cap, cur, hv, hb, hgg, _⟩⟩
  · omega
  · cases hv
  · cases hv
    exact ⟨cur, hgg⟩
end
section
open Go.RowKit Go.Sort
theorem Blk.ne {w : World} {g g' : Nat} {t t' : TypeId} {cs cs' : Array Value} (h : Blk w g t cs) (h' : Blk w g' t' cs') (hne : t ≠ t') : g ≠ g' := by
  rintro rfl
  unfold Blk at h h'
  rw [h] at h'
  cases h'
  exact hne rfl
end
section
open Go.RowKit Go.Sort
theorem Blk.drewN {w : World} {g : Nat} {t : TypeId} {cs : Array Value} (h : Blk w g t cs) (k : Nat) : Blk (w.drewN k) g t cs := h
end
section
open Go.RowKit Go.Sort
/-- A read of an array that is known as a list, under a guard that holds. -/
theorem wpQuiet_load_mid_g {P : Program} {ops : Array Oper} {rest : List Oper} {op : Oper} {a : Act} {C : World → Prop} {Q1 : Act → Prop} (hw : Region.wanted op (yielded ops a.tmps) = true) (ty : TypeId) (x : Operand) (ho : op.op = .load ty x)
    (b o : Nat) (hx : a.eval x = .pointer (some ⟨b, o, none⟩)) (cs : List Value) (d : TypeDesc) (hS : ∀ w, C w → w.rangeAt b o cs)
    (hu : P.underlying ty = some d) (hd : d.isRow = true) (hi : (P.info? ty).map (·.size) = some cs.length)
    (h : wpQuiet P ops C Q1 rest (a.put op.dst (.agg cs.toArray))) : wpQuiet P ops C Q1 (op :: rest) a := by
  unfold wpQuiet
  rw [if_pos hw]
  refine ⟨_, fun w hC => ?_, h⟩
  unfold Oper.quietAt execOp
  simp only [ho, hx, Instr.loadAt, Instr.sureAddr, Sem.run_bind, Sem.run_pure, Result.andThen_ok, run_loadVar_mid w b o ty cs d (hS w hC) hu hd hi]
  exact ⟨rfl, rfl⟩
end
section
open Go.RowKit Go.Sort
/-- New slices of bytes, one after the other. -/
def Ins (w : World) (vs : List Sl) (cs : List (List UInt8)) : Prop := vs.length = cs.length ∧ ∀ (k : Nat) (v : Sl) (c : List UInt8), vs[k]? = some v → cs[k]? = some c → TRd w 5 1 v.a v.n (c.map byteV) ∧ v.n ≤ v.c
end
section
open Go.RowKit Go.Sort
theorem TRd.kept {w w' : World} {e t sz n g : Nat} {A : Option Addr} {xs : List Value} {cs : Array Value} (h : TRd w e sz A n xs) (hg : Blk w g t cs) (hne : t ≠ e) (hk : KeptIn (fun k => k ≠ g) w w') : TRd w' e sz A n xs := by
  have hb : ∀ b off, 0 < n → A = some ⟨b, off, none⟩ → b ≠ g := fun b off hn e => by
    obtain ⟨cur, hc⟩ := h.2 hn b off e
    exact hc.ne hg (fun e => hne e.symm)
  exact ⟨h.1.keptIn hk (fun b off hn e => hb b off hn e), fun hn b off e => by obtain ⟨cur, hc⟩ := h.2 hn b off e; exact ⟨cur, hc.keptIn hk (hb b off hn e)⟩⟩
end
section
open Go.RowKit Go.Sort
theorem KeptIn.grownBut {w w' : World} {g : Nat} (h : KeptIn (fun k => k ≠ g) w w') : w.grownBy w' (some g) := ⟨h.os, h.tape, h.output, h.size, fun i _ hne => h.block i (fun e => hne (by rw [e]))⟩
end
section
open Go.RowKit Go.Sort
theorem TRd.grown {w w' : World} {e t sz n : Nat} {A : Option Addr} {xs : List Value} {row : Option Nat} (h : TRd w e sz A n xs) (hg : w.grownBy w' row) (hrow : ∀ g, row = some g → ∃ cur, Blk w g t cur) (hne : t ≠ e) : TRd w' e sz A n xs := by
  have hb : ∀ b off, 0 < n → A = some ⟨b, off, none⟩ → some b ≠ row := fun b off hn e' er => by
    obtain ⟨cur, hc⟩ := h.2 hn b off e'
    obtain ⟨cur', hc'⟩ := hrow b er.symm
    exact (Blk.ne hc' hc hne) rfl
  refine ⟨⟨h.1.1, h.1.2.1, fun hn => ?_⟩, fun hn b off e' => ?_⟩
  · obtain ⟨b, off, e', hc⟩ := h.1.2.2 hn
    exact ⟨b, off, e', fun j u hu => hg.cell (hc j u hu) (hb b off hn e')⟩
  · obtain ⟨cur, hc⟩ := h.2 hn b off e'
    exact ⟨cur, hc.kept hg (hb b off hn e')⟩
end
section
open Go.RowKit Go.Sort
theorem AppZ.row {w : World} {base e sz n : Nat} {v : Value} {xs : List Value} (h : AppZ w base e sz v n xs) (hn : 0 < n) : ∀ g, v.ownBlock = some g → ∃ cur, Blk w g e cur := by
  intro g e'
  obtain ⟨A, c, rfl, _, _⟩ := h.rd
  cases A with
  | none => cases e'
  | some a =>
    obtain ⟨b, o, s⟩ := a
    simp only [Value.ownBlock, Option.some.injEq] at e'
    subst e'
    rcases h with ⟨h0, _⟩ | ⟨_, ⟨hv, _⟩ | ⟨g', cap, cur, hv, hb, hgg, _⟩⟩
    · omega
    · cases hv
    · cases hv
      exact ⟨cur, hgg⟩
end
section
open Go.RowKit Go.Sort
theorem Ins.below {w w' : World} {vs : List Sl} {cs : List (List UInt8)} (h : Ins w vs cs) (hb : Below w.heap.size w w') : Ins w' vs cs := ⟨h.1, fun k v c hv hc => ⟨(h.2 k v c hv hc).1.below hb, (h.2 k v c hv hc).2⟩⟩
end
section
open Go.RowKit Go.Sort
theorem Ins.grown {w w' : World} {t : Nat} {vs : List Sl} {cs : List (List UInt8)} {row : Option Nat} (h : Ins w vs cs) (hg : w.grownBy w' row) (hrow : ∀ g, row = some g → ∃ cur, Blk w g t cur) (hne : t ≠ 5) : Ins w' vs cs := ⟨h.1, fun k v c hv hc => ⟨(h.2 k v c hv hc).1.grown hg hrow hne, (h.2 k v c hv hc).2⟩⟩
end
section
open Go.RowKit Go.Sort
theorem Ins.kept {w w' : World} {t g : Nat} {vs : List Sl} {cs : List (List UInt8)} {cur : Array Value} (h : Ins w vs cs) (hg : Blk w g t cur) (hne : t ≠ 5) (hk : KeptIn (fun k => k ≠ g) w w') : Ins w' vs cs := ⟨h.1, fun k v c hv hc => ⟨(h.2 k v c hv hc).1.kept hg hne hk, (h.2 k v c hv hc).2⟩⟩
end
section
open Go.RowKit Go.Sort
theorem TRd.ext {w w' : World} {e : TypeId} {sz n : Nat} {A : Option Addr} {xs : List Value} (h : TRd w e sz A n xs) (hb : Below w.heap.size w w') : TRd w' e sz A n xs := h.below hb
end
section
open Go.RowKit Go.Sort
theorem Ins.append {w : World} {vs us : List Sl} {cs ds : List (List UInt8)} (h : Ins w vs cs) (h' : Ins w us ds) : Ins w (vs ++ us) (cs ++ ds) := by
  refine ⟨by simp [h.1, h'.1], fun k v c hv hc => ?_⟩
  by_cases hk : k < vs.length
  · rw [List.getElem?_append_left hk] at hv
    rw [List.getElem?_append_left (by rw [← h.1]; exact hk)] at hc
    exact h.2 k v c hv hc
  · rw [List.getElem?_append_right (by omega)] at hv
    rw [List.getElem?_append_right (by rw [← h.1]; omega), ← h.1] at hc
    exact h'.2 _ v c hv hc
end
section
open Go Go.RowKit Go.Sort
/-- The chain, from a frame whose slot d holds x: behind each operation the slot may hold another value, and the world may have grown. -/
def chainP (P : Program) (ops : Array Oper) (Q : Exit → Act → World → Prop) (d : Nat) (fin : Value → Act → World → Prop) : List Oper → Value → Act → World → Prop
  | [], x, a, W => fin x a W
  | o :: os, x, a, W => ∀ K : Act → World → Prop,
      (∀ a' W', a'.tmps.getD d undef = x → d < a'.tmps.size → Below W.heap.size W W' → (∀ y W'', Below W'.heap.size W' W'' → chainP P ops Q d fin os y (a'.put (some d) y) W'') → K a' W') →
      if Region.wanted o (yielded ops a.tmps) = true then Oper.wp P o a W K Q else K (a.put o.dst undef) W
end
section
open Go Go.RowKit Go.Sort
/-- The end: the copies, then the variable is filled. -/
def finP (P : Program) (l : List Oper) (Q : Exit → Act → World → Prop) (w0 : World) (d : Nat) (T : TypeId) (Z : Array Value) (y : Operand) (is1 : List Nat) (x : Value) (a : Act) (W : World) : Prop :=
  wpQuiet P l.toArray (Ext w0) (fun a3 => a3.tmps.getD d undef = x ∧ d < a3.tmps.size ∧ ∀ B W3, w0.heap.size ≤ B → Below W.heap.size W W3 → Blk W3 B T Z →
    ∃ cells : Array Value, (a3.put (some d) (.pointer (some ⟨B, 0, none⟩))).eval y = .agg cells ∧ cells.size = Z.size ∧ cells.all (·.oneCell') = true ∧ Q .normal (a3.put (some d) (.pointer (some ⟨B, 0, none⟩))) (W3.setRow B cells)) (pickOps l is1) a

end
section
open Go Go.RowKit Go.Sort
/-- The orders, the block being laid already. -/
def doneB (h : Array Oper) (s : Nat) (is1 : List Nat) : List Nat → Array Bool → Bool
  | [], L => orderB .any h is1 L && (Region.ready .any h (setAll L is1) == [s]) && (Region.ready .any h ((setAll L is1).setIfInBounds s true) == [])
  | c :: cs, L => (Region.ready .any h L == [c]) && doneB h s is1 cs (L.setIfInBounds c true)
end
section
open Go Go.RowKit Go.Sort
/-- The orders, the block not being laid. -/
def floatB (h : Array Oper) (f s : Nat) (is1 : List Nat) : List Nat → Array Bool → Bool
  | [], L => orderB .any h is1 L && (Region.ready .any h (setAll L is1) == [f]) && (Region.ready .any h ((setAll L is1).setIfInBounds f true) == [s]) && (Region.ready .any h (((setAll L is1).setIfInBounds f true).setIfInBounds s true) == [])
  | c :: cs, L => (Region.ready .any h L == (if f < c then [f, c] else [c, f])) && doneB h s is1 (c :: cs) (L.setIfInBounds f true) && floatB h f s is1 cs (L.setIfInBounds c true)

end
section
open Go Go.RowKit Go.Sort
theorem put_own (a : Act) (d : Nat) : a.put (some d) (a.tmps.getD d undef) = a := by
  unfold Act.put
  simp only
  have : a.tmps.setIfInBounds d (a.tmps.getD d undef) = a.tmps := by
    apply Array.ext (by simp)
    intro i h1 h2
    rw [Array.getElem_setIfInBounds]
    split
    · rename_i e; subst e; simp [h2]
    · rfl
  rw [this]
end
section
open Go Go.RowKit Go.Sort
theorem put_same {a : Act} {d : Nat} {x : Value} (h : a.tmps.getD d undef = x) : a.put (some d) x = a := by rw [← h]; exact put_own a d

end
section
open Go Go.RowKit Go.Sort
variable {P : Program} {Q : Exit → Act → World → Prop} {l : List Oper} {w0 : World} {d f s : Nat} {T : TypeId} {Z : Array Value} {z : Value} {i : TypeInfo} {of os : Oper} {y : Operand} {is1 : List Nat}
/-- The block is laid. -/
theorem chain_done (hs0 : Region.noSelect l.toArray = true) (hQ : ∀ c a d v w, Q (.panic c) (Act.put a d v) w → Q (.panic c) a w) (hp : (pickOps l is1).all plainOp = true)
    (hos : l[s]? = some os) (hsg : os.guard = none) (hsd : os.dst = none) (hso : os.op = .store T (.tmp d) y) (hd : ∀ cells : Array Value, cells.size = Z.size → (P.info? T).map (·.size) = some cells.size) :
    ∀ (cs : List Nat) (L : Array Bool) (a : Act) (W : World) (B : Nat), doneB l.toArray s is1 cs L = true → (pickOps l cs).length = cs.length → Ext w0 W → w0.heap.size ≤ B → Blk W B T Z → d < a.tmps.size → 
      chainP P l.toArray Q d (finP P l Q w0 d T Z y is1) (pickOps l cs) (.pointer (some ⟨B, 0, none⟩)) a W → wpAnyH P .any l.toArray Q (Ext w0) (cs.length + (is1.length + 1)) L a W
  | [], L, a, W, B, hB, _, hE, hb, hblk, hda, h => by
    simp only [doneB, Bool.and_eq_true, beq_iff_eq] at hB
    obtain ⟨⟨hB1, hB2⟩, hB3⟩ := hB
    simp only [List.length_nil, Nat.zero_add]
    refine wpAnyH_reads hs0 hQ is1 L a W hE hB1 hp ?_
    refine wpQuiet_mono' ?_ _ _ h
    rintro a3 ⟨hx, hda3, h3⟩
    obtain ⟨cells, he, hz, h1, hq⟩ := h3 B W hb (Below.refl _ _) hblk
    rw [put_same hx] at he hq
    refine wpAnyH_one hB2 hos ?_
    intro K hK
    refine step_store_row hsg T (.tmp d) y hso B cells ?_ he T Z hblk (hd _ hz) hz.symm h1 ?_
    · unfold Act.eval; simpa using hx
    · rw [hsd]
      refine hK _ _ ?_ (wpAnyH_done hB3 hq 0)
      exact ext_of (Below.setRow (ext_below hE) hb _)
  | c :: cs, L, a, W, B, hB, hl, hE, hb, hblk, hda, h => by
    simp only [doneB, Bool.and_eq_true, beq_iff_eq] at hB
    obtain ⟨hr, hB'⟩ := hB
    obtain ⟨o, ho⟩ : ∃ o, l[c]? = some o := by
      have : c ∈ Region.ready .any l.toArray L := by rw [hr]; simp
      obtain ⟨_, o, ho, _⟩ := mem_ready.1 this
      exact ⟨o, by simpa using ho⟩
    have hpk : pickOps l (c :: cs) = o :: pickOps l cs := by rw [pickOps, ho]
    rw [hpk] at h hl
    rw [show (c :: cs).length + (is1.length + 1) = (cs.length + (is1.length + 1)) + 1 from by simp; omega]
    refine wpAnyH_one hr ho ?_
    intro K hK
    refine h K fun a' W' hx' hda' hb' hn => hK _ _ (ext_trans hE (ext_of hb')) ?_
    have := hn (.pointer (some ⟨B, 0, none⟩)) W' (Below.refl _ _)
    rw [put_same hx'] at this
    exact chain_done hs0 hQ hp hos hsg hsd hso hd cs _ a' W' B hB' (by simpa using hl) (ext_trans hE (ext_of hb')) hb (hblk.below hb' hblk.lt) hda' this
end
section
open Go Go.RowKit Go.Sort
variable {P : Program} {Q : Exit → Act → World → Prop} {l : List Oper} {w0 : World} {d f s : Nat} {T : TypeId} {Z : Array Value} {z : Value} {i : TypeInfo} {of os : Oper} {y : Operand} {is1 : List Nat}
/-- **The block is not laid.** -/
theorem chain_float (hs0 : Region.noSelect l.toArray = true) (hQ : ∀ c a d v w, Q (.panic c) (Act.put a d v) w → Q (.panic c) a w) (hp : (pickOps l is1).all plainOp = true)
    (hos : l[s]? = some os) (hsg : os.guard = none) (hsd : os.dst = none) (hso : os.op = .store T (.tmp d) y) (hd : ∀ cells : Array Value, cells.size = Z.size → (P.info? T).map (·.size) = some cells.size)
    (hof : l[f]? = some of) (hfg : of.guard = none) (hfd : of.dst = some d) (hfo : of.op = .alloc T) (hi : P.info? T = some i) (hz : i.zero = some z) (hc : z.cells = Z) :
    ∀ (cs : List Nat) (L : Array Bool) (a : Act) (W : World), floatB l.toArray f s is1 cs L = true → (pickOps l cs).length = cs.length → Ext w0 W → d < a.tmps.size →
      (∀ y' W', Below W.heap.size W W' → chainP P l.toArray Q d (finP P l Q w0 d T Z y is1) (pickOps l cs) y' (a.put (some d) y') W') → wpAnyH P .any l.toArray Q (Ext w0) (cs.length + (is1.length + 2)) L a W
  | [], L, a, W, hB, _, hE, hda, h => by
    simp only [floatB, Bool.and_eq_true, beq_iff_eq] at hB
    obtain ⟨⟨⟨hB1, hB2⟩, hB3⟩, hB4⟩ := hB
    simp only [List.length_nil, Nat.zero_add]
    refine wpAnyH_reads hs0 hQ is1 L a W hE hB1 hp ?_
    have h0 := h (a.tmps.getD d undef) W (Below.refl _ _)
    rw [put_own] at h0
    refine wpQuiet_mono' ?_ _ _ h0
    rintro a3 ⟨hx, hda3, h3⟩
    have hb1 : Below W.heap.size W (W.alloc (.cells Z T)) := (Below.refl _ _).alloc (Nat.le_refl _) _
    obtain ⟨cells, he, hz', h1, hq⟩ := h3 W.heap.size (W.alloc (.cells Z T)) (ext_below hE).size hb1 (Blk.new _ _ _)
    refine wpAnyH_one hB2 hof ?_
    intro K hK
    refine step_alloc0 hfg T hfo Z z i hi hz hc ?_
    rw [hfd]
    refine hK _ _ (ext_trans hE (ext_of hb1)) ?_
    refine wpAnyH_one hB3 hos ?_
    intro K2 hK2
    refine step_store_row hsg T (.tmp d) y hso W.heap.size cells ?_ he T Z (Blk.new _ _ _) (hd _ hz') hz'.symm h1 ?_
    · unfold Act.eval Act.put
      simp [hda3]
    · rw [hsd]
      refine hK2 _ _ ?_ (wpAnyH_done hB4 hq 0)
      exact ext_of (Below.setRow (ext_below (ext_trans hE (ext_of hb1))) (ext_below hE).size _)
  | c :: cs, L, a, W, hB, hl, hE, hda, h => by
    simp only [floatB, Bool.and_eq_true, beq_iff_eq] at hB
    obtain ⟨⟨hr, hD⟩, hF⟩ := hB
    obtain ⟨o, ho⟩ : ∃ o, l[c]? = some o := by
      have : c ∈ Region.ready .any l.toArray L := by rw [hr]; split <;> simp
      obtain ⟨_, o, ho, _⟩ := mem_ready.1 this
      exact ⟨o, by simpa using ho⟩
    have hpk : pickOps l (c :: cs) = o :: pickOps l cs := by rw [pickOps, ho]
    rw [show (c :: cs).length + (is1.length + 2) = (cs.length + (is1.length + 2)) + 1 from by simp; omega]
    refine wpAnyH_all hr (by split <;> simp) fun j hj => ?_
    have hj' : j = f ∨ j = c := by
      split at hj
      · simpa using hj
      · have : j = c ∨ j = f := by simpa using hj
        exact this.symm
    rcases hj' with rfl | rfl
    · refine wpOp_step (by simpa using hof) fun K hK => ?_
      have hb1 : Below W.heap.size W (W.alloc (.cells Z T)) := (Below.refl _ _).alloc (Nat.le_refl _) _
      refine step_alloc0 hfg T hfo Z z i hi hz hc ?_
      rw [hfd]
      refine hK _ _ ⟨ext_trans hE (ext_of hb1), ?_⟩
      rw [show cs.length + (is1.length + 2) = (c :: cs).length + (is1.length + 1) from by simp; omega]
      exact chain_done hs0 hQ hp hos hsg hsd hso hd (c :: cs) _ _ _ W.heap.size hD hl (ext_trans hE (ext_of hb1)) (ext_below hE).size (Blk.new _ _ _) (by unfold Act.put; simpa using hda) (h _ _ hb1)
    · rw [hpk] at h hl
      have h0 := h (a.tmps.getD d undef) W (Below.refl _ _)
      rw [put_own] at h0
      refine wpOp_step (by simpa using ho) fun K hK => ?_
      refine h0 K fun a' W' hx' hda' hb' hn => hK _ _ ⟨ext_trans hE (ext_of hb'), ?_⟩
      exact chain_float hs0 hQ hp hos hsg hsd hso hd hof hfg hfd hfo hi hz hc cs _ a' W' hF (by simpa using hl) (ext_trans hE (ext_of hb')) hda' hn
end
section
open Go Go.RowKit Go.Sort
/-- An operation that lays a block and yields a value made of the block's number. -/
structure Flo where
  (f d : Nat) (T : TypeId) (Z : Array Value) (val : Nat → Value)
end
section
open Go Go.RowKit Go.Sort
/-- A stretch of the chain: one operation that waits for some of the blocks, or copies. -/
inductive Itm where
  | act (c : Nat) (need : List Nat)
  | plain (is : List Nat)
end
section
open Go Go.RowKit Go.Sort
def Itm.idx : Itm → List Nat
  | .act c _ => [c]
  | .plain is => is
end
section
open Go Go.RowKit Go.Sort
def FloOk (P : Program) (ops : Array Oper) (Q : Exit → Act → World → Prop) (o : Oper) (F : Flo) : Prop :=
  ∀ (a : Act) (W : World) (K : Act → World → Prop), K (a.put (some F.d) (F.val W.heap.size)) (W.alloc (.cells F.Z F.T)) → if Region.wanted o (yielded ops a.tmps) = true then Oper.wp P o a W K Q else K (a.put o.dst undef) W
end
section
open Go Go.RowKit Go.Sort
def FlosOk (P : Program) (l : List Oper) (Q : Exit → Act → World → Prop) : List Flo → Prop
  | [] => True
  | F :: Fs => (∃ o, l[F.f]? = some o ∧ FloOk P l.toArray Q o F) ∧ FlosOk P l Q Fs
end
section
open Go Go.RowKit Go.Sort
/-- The blocks' values, put into their slots. -/
def putS (fs : List Flo) (v : Nat → Value) (a : Act) : Act := fs.foldl (fun a F => a.put (some F.d) (v F.f)) a
end
section
open Go Go.RowKit Go.Sort
def Known (w0 W : World) (fs : List Flo) (v : Nat → Value) (f : Nat) : Prop := ∀ F ∈ fs, F.f = f → ∃ B, v f = F.val B ∧ w0.heap.size ≤ B ∧ Blk W B F.T F.Z
end
section
open Go Go.RowKit Go.Sort
def SlotsAre (fs : List Flo) (v : Nat → Value) (a : Act) : Prop := ∀ F ∈ fs, a.tmps.getD F.d undef = v F.f ∧ F.d < a.tmps.size
end
section
open Go Go.RowKit Go.Sort
/-- One operation is carried out. -/
def StepP (P : Program) (ops : Array Oper) (Q : Exit → Act → World → Prop) (o : Oper) (a : Act) (W : World) (K : Act → World → Prop) : Prop :=
  if Region.wanted o (yielded ops a.tmps) = true then Oper.wp P o a W K Q else K (a.put o.dst undef) W
end
section
open Go Go.RowKit Go.Sort
/-- What is met along the chain, whatever has been laid by then. -/
def webP (P : Program) (l : List Oper) (Q : Exit → Act → World → Prop) (w0 : World) (fs : List Flo) (fin : Act → World → Prop) : List Itm → Act → World → Prop
  | [], a, W => ∀ v W', Below W.heap.size W W' → (∀ F ∈ fs, Known w0 W' fs v F.f) → fin (putS fs v a) W'
  | .act c need :: its, a, W => ∀ v W', Below W.heap.size W W' → (∀ f ∈ need, Known w0 W' fs v f) → ∀ o, l[c]? = some o → ∀ K : Act → World → Prop,
      (∀ a' W'', SlotsAre fs v a' → Below W'.heap.size W' W'' → webP P l Q w0 fs fin its a' W'' → K a' W'') →
      StepP P l.toArray Q o (putS fs v a) W' K
  | .plain is :: its, a, W => ∀ v W', Below W.heap.size W W' → wpQuiet P l.toArray (Ext w0) (fun a' => SlotsAre fs v a' ∧ webP P l Q w0 fs fin its a' W') (pickOps l is) (putS fs v a)

end
section
open Go Go.RowKit Go.Sort
def subsL : List Nat → List (List Nat)
  | [] => [[]]
  | x :: xs => subsL xs ++ (subsL xs).map (x :: ·)
end
section
open Go Go.RowKit Go.Sort
theorem filter_subs (D : Nat → Bool) : ∀ fs : List Nat, fs.filter D ∈ subsL fs
  | [] => by simp [subsL]
  | x :: xs => by
    simp only [subsL, List.mem_append, List.mem_map, List.filter_cons]
    by_cases h : D x = true
    · rw [if_pos h]; exact .inr ⟨_, filter_subs D xs, rfl⟩
    · rw [if_neg h]; exact .inl (filter_subs D xs)
end
section
open Go Go.RowKit Go.Sort
def stepB (h : Array Oper) (fs : List Nat) (L : Array Bool) (it : Itm) (S : List Nat) : Bool := match it with
  | .act c need => (Region.ready .any h L).all (fun i => (fs.contains i && !S.contains i) || (i == c && need.all fun f => S.contains f)) && !(Region.ready .any h L).isEmpty
  | .plain is => orderB .any h is L && is.all fun i => !fs.contains i
end
section
open Go Go.RowKit Go.Sort
/-- Every order is one that the walk follows. -/
def webB (h : Array Oper) (fs : List Nat) (L0 : Array Bool) : List Nat → List Itm → Bool
  | dn, [] => (subsL fs).all fun S => S == fs || ((Region.ready .any h (setAll L0 (dn ++ S))).all (fun i => fs.contains i && !S.contains i) && !(Region.ready .any h (setAll L0 (dn ++ S))).isEmpty)
  | dn, it :: its => (subsL fs).all (fun S => stepB h fs (setAll L0 (dn ++ S)) it S) && webB h fs L0 (dn ++ it.idx) its

end
section
open Go Go.RowKit Go.Sort
theorem setAll_get : ∀ (is : List Nat) (L : Array Bool) (i : Nat), (setAll L is)[i]? = if i ∈ is ∧ i < L.size then some true else L[i]?
  | [], L, i => by simp [setAll]
  | j :: is, L, i => by
    rw [show setAll L (j :: is) = setAll (L.setIfInBounds j true) is from rfl, setAll_get is]
    simp only [Array.size_setIfInBounds, Array.getElem?_setIfInBounds, List.mem_cons]
    by_cases h1 : i ∈ is <;> by_cases h2 : i < L.size <;> by_cases h3 : j = i <;> simp_all <;> (try (subst h3; simp_all)) <;> (try exact fun e => absurd e.symm h3)
end
section
open Go Go.RowKit Go.Sort
theorem setAll_congr {L : Array Bool} {is js : List Nat} (h : ∀ i, i ∈ is ↔ i ∈ js) : setAll L is = setAll L js := by
  apply Array.ext_getElem?
  intro i
  rw [setAll_get, setAll_get]
  simp [h i]
end
section
open Go Go.RowKit Go.Sort
theorem setAll_append (L : Array Bool) (is js : List Nat) : setAll L (is ++ js) = setAll (setAll L is) js := by unfold setAll; exact List.foldl_append

end
section
open Go Go.RowKit Go.Sort
/-- The frame is that of the chain, but for the blocks' slots. -/
def Agr (fs : List Flo) (a aa : Act) : Prop := aa.defers = a.defers ∧ aa.tmps.size = a.tmps.size ∧ ∀ i, (∀ F ∈ fs, F.d ≠ i) → aa.tmps[i]? = a.tmps[i]?
end
section
open Go Go.RowKit Go.Sort
theorem Agr.refl (fs : List Flo) (a : Act) : Agr fs a a := ⟨rfl, rfl, fun _ _ => rfl⟩
end
section
open Go Go.RowKit Go.Sort
theorem Agr.put {fs : List Flo} {a aa : Act} (h : Agr fs a aa) {F : Flo} (hF : F ∈ fs) (x : Value) : Agr fs a (aa.put (some F.d) x) := by
  refine ⟨h.1, by simp [Act.put, h.2.1], fun i hi => ?_⟩
  unfold Act.put
  simp only
  rw [Array.getElem?_setIfInBounds, if_neg (hi F hF)]
  exact h.2.2 i hi
end
section
open Go Go.RowKit Go.Sort
theorem putS_agr {v : Nat → Value} {aa : Act} : ∀ {fs : List Flo} {a : Act}, Agr fs a aa → SlotsAre fs v aa → putS fs v a = aa
  | [], a, h, _ => by
    cases a; cases aa
    obtain ⟨h1, h2, h3⟩ := h
    simp only at h1 h2 h3
    subst h1
    show Act.mk _ _ = Act.mk _ _
    congr 1
    exact Array.ext_getElem? fun i => (h3 i (fun F hF => by simp at hF)).symm
  | F :: Fs, a, h, hs => by
    have hF := hs F (by simp)
    show putS Fs v (a.put (some F.d) (v F.f)) = aa
    refine putS_agr ⟨h.1, by simp [Act.put, h.2.1], fun i hi => ?_⟩ fun G hG => hs G (by simp [hG])
    unfold Act.put
    simp only
    rw [Array.getElem?_setIfInBounds]
    split
    · rename_i e
      subst e
      have hd : F.d < a.tmps.size := by rw [← h.2.1]; exact hF.2
      rw [if_pos hd, ← hF.1]
      simp [hF.2]
    · rename_i e
      exact h.2.2 i (fun G hG => by
        rcases List.mem_cons.1 hG with rfl | hG
        · exact e
        · exact hi G hG)
end
section
open Go Go.RowKit Go.Sort
theorem inj_of_nodup {β : Type} (g : Flo → β) : ∀ {fs : List Flo}, (fs.map g).Nodup → ∀ F ∈ fs, ∀ G ∈ fs, g F = g G → F = G
  | [], _, F, hF, _, _, _ => by simp at hF
  | X :: Xs, h, F, hF, G, hG, e => by
    rw [List.map_cons, List.nodup_cons] at h
    rcases List.mem_cons.1 hF with rfl | hF'
    · rcases List.mem_cons.1 hG with rfl | hG'
      · rfl
      · exact absurd (by rw [e]; exact List.mem_map_of_mem hG') h.1
    · rcases List.mem_cons.1 hG with rfl | hG'
      · exact absurd (by rw [← e]; exact List.mem_map_of_mem hF') h.1
      · exact inj_of_nodup g h.2 F hF' G hG' e
end
section
open Go Go.RowKit Go.Sort
theorem flosOk_mem {P : Program} {l : List Oper} {Q : Exit → Act → World → Prop} : ∀ {fs : List Flo}, FlosOk P l Q fs → ∀ F ∈ fs, ∃ o, l[F.f]? = some o ∧ FloOk P l.toArray Q o F
  | [], _, F, hF => by simp at hF
  | X :: Xs, h, F, hF => by
    rcases List.mem_cons.1 hF with rfl | hF
    · exact h.1
    · exact flosOk_mem h.2 F hF
end
section
open Go Go.RowKit Go.Sort
theorem slots_exist {fs : List Flo} (hf : (fs.map Flo.f).Nodup) {a : Act} (hd : ∀ F ∈ fs, F.d < a.tmps.size) : ∃ v, SlotsAre fs v a := by
  refine ⟨fun f => match fs.find? (fun F => F.f == f) with | some F => a.tmps.getD F.d undef | none => undef, fun F hF => ⟨?_, hd F hF⟩⟩
  cases hfd : fs.find? (fun G => G.f == F.f) with
  | none => exact absurd (List.find?_eq_none.1 hfd F hF) (by simp)
  | some G =>
    have h1 := List.mem_of_find?_eq_some hfd
    have h2 : G.f = F.f := by simpa using List.find?_some hfd
    obtain rfl := inj_of_nodup Flo.f hf G h1 F hF h2
    simp only [hfd]

end
section
open Go Go.RowKit Go.Sort
variable {P : Program} {Q : Exit → Act → World → Prop} {l : List Oper} {w0 : World} {fs : List Flo} {L0 : Array Bool} {rest : Nat} {fin : Act → World → Prop} {Lend : Array Bool}
def restOps : List Itm → Nat
  | [] => 0
  | it :: its => it.idx.length + restOps its
end
section
open Go Go.RowKit Go.Sort
variable {P : Program} {Q : Exit → Act → World → Prop} {l : List Oper} {w0 : World} {fs : List Flo} {L0 : Array Bool} {rest : Nat} {fin : Act → World → Prop} {Lend : Array Bool}
def doneIdx : List Nat → List Itm → List Nat
  | dn, [] => dn
  | dn, it :: its => doneIdx (dn ++ it.idx) its

end
section
open Go Go.RowKit Go.Sort
variable {P : Program} {Q : Exit → Act → World → Prop} {l : List Oper} {w0 : World} {fs : List Flo} {L0 : Array Bool} {rest : Nat} {fin : Act → World → Prop} {Lend : Array Bool}
theorem filter_le {p q : Nat → Bool} (h : ∀ i, q i = true → p i = true) : ∀ l : List Nat, (l.filter q).length ≤ (l.filter p).length
  | [] => by simp
  | x :: xs => by
    have ih := filter_le h xs
    have hx := h x
    rw [List.filter_cons, List.filter_cons]
    cases hq : q x <;> cases hp : p x <;> simp_all <;> omega
end
section
open Go Go.RowKit Go.Sort
variable {P : Program} {Q : Exit → Act → World → Prop} {l : List Oper} {w0 : World} {fs : List Flo} {L0 : Array Bool} {rest : Nat} {fin : Act → World → Prop} {Lend : Array Bool}
theorem filter_lt {p q : Nat → Bool} (h : ∀ i, q i = true → p i = true) : ∀ {l : List Nat} {f : Nat}, f ∈ l → p f = true → q f = false → (l.filter q).length < (l.filter p).length
  | [], f, hf, _, _ => by simp at hf
  | x :: xs, f, hf, hp, hq => by
    rw [List.filter_cons, List.filter_cons]
    by_cases hx : x = f
    · subst hx
      have := filter_le h xs
      rw [hp, hq]
      simp
      omega
    · have hf' : f ∈ xs := by
        rcases List.mem_cons.1 hf with rfl | h'
        · exact absurd rfl hx
        · exact h'
      have ih := filter_lt h hf' hp hq
      have hx' := h x
      cases hq' : q x <;> cases hp' : p x <;> simp_all <;> omega
end
section
open Go Go.RowKit Go.Sort
variable {P : Program} {Q : Exit → Act → World → Prop} {l : List Oper} {w0 : World} {fs : List Flo} {L0 : Array Bool} {rest : Nat} {fin : Act → World → Prop} {Lend : Array Bool}
def plainIts (l : List Oper) : List Itm → Bool
  | [] => true
  | .act c _ :: its => (l[c]?).isSome && plainIts l its
  | .plain is :: its => (pickOps l is).all plainOp && plainIts l its
end
section
open Go Go.RowKit Go.Sort
variable {P : Program} {Q : Exit → Act → World → Prop} {l : List Oper} {w0 : World} {fs : List Flo} {L0 : Array Bool} {rest : Nat} {fin : Act → World → Prop} {Lend : Array Bool}
/-- **ONE WALK ALONG THE CHAIN.** -/
theorem wpAnyH_web (hs0 : Region.noSelect l.toArray = true) (hQ : ∀ c a d v w, Q (.panic c) (Act.put a d v) w → Q (.panic c) a w) (hok : FlosOk P l Q fs) (hnf : (fs.map Flo.f).Nodup) (hnd : (fs.map Flo.d).Nodup)
    (hend : ∀ a W, fin a W → ∀ k, wpAnyH P .any l.toArray Q (Ext w0) (k + rest) Lend a W) :
    ∀ (m fuel : Nat) (dn : List Nat) (its : List Itm) (D : Nat → Bool) (L : Array Bool) (aa : Act) (WW : World) (a : Act) (W : World) (v : Nat → Value), fuel + its.length = m →
      webB l.toArray (fs.map Flo.f) L0 dn its = true → plainIts l its = true → webP P l Q w0 fs fin its a W → Below W.heap.size W WW → Ext w0 WW → Agr fs a aa → SlotsAre fs v aa →
      (∀ F ∈ fs, D F.f = true → ∃ B, v F.f = F.val B ∧ w0.heap.size ≤ B ∧ Blk WW B F.T F.Z) →
      L = setAll L0 (dn ++ (fs.map Flo.f).filter D) → Lend = setAll L0 (doneIdx dn its ++ fs.map Flo.f) →
      restOps its + ((fs.map Flo.f).filter fun i => !D i).length + rest ≤ fuel → wpAnyH P .any l.toArray Q (Ext w0) fuel L aa WW := by
  intro m
  induction m using Nat.strongRecOn with
  | _ m ih =>
  intro fuel dn its D L aa WW a W v hm hB hpl hw hb hE hag hsl hD hL hLe hf
  -- a block is laid
  have lay : ∀ F ∈ fs, D F.f = false → ∀ fuel', fuel = fuel' + 1 → wpOp P l.toArray Q F.f (fun a' W' => Ext w0 W' ∧ wpAnyH P .any l.toArray Q (Ext w0) fuel' (L.setIfInBounds F.f true) a' W') aa WW := by
    intro F hF hDf fuel' hfu
    obtain ⟨o, ho, hF'⟩ := flosOk_mem hok F hF
    refine wpOp_step (by simpa using ho) fun K hK => ?_
    refine hF' aa WW K (hK _ _ ?_)
    have hb1 : Below WW.heap.size WW (WW.alloc (.cells F.Z F.T)) := (Below.refl _ _).alloc (Nat.le_refl _) _
    refine ⟨ext_trans hE (ext_of hb1), ?_⟩
    obtain ⟨v', hv1, hv2⟩ : ∃ v' : Nat → Value, v' F.f = F.val WW.heap.size ∧ ∀ g, g ≠ F.f → v' g = v g := ⟨fun f => if f = F.f then F.val WW.heap.size else v f, if_pos rfl, fun g hg => if_neg hg⟩
    refine ih (fuel' + its.length) (by omega) fuel' dn its (fun i => D i || i == F.f) _ _ _ a W v' rfl hB hpl hw (hb.trans (hb1.mono hb.size)) (ext_trans hE (ext_of hb1)) (hag.put hF _) ?_ ?_ ?_ hLe ?_
    · intro G hG
      have hs := hsl G hG
      refine ⟨?_, by simp [Act.put]; exact hs.2⟩
      by_cases he : G.f = F.f
      · obtain rfl := inj_of_nodup Flo.f hnf G hG F hF he
        rw [hv1]
        simp [Act.put, hs.2]
      · rw [hv2 _ he, ← hs.1]
        have hne : F.d ≠ G.d := fun e => he (by rw [inj_of_nodup Flo.d hnd F hF G hG e])
        simp [Act.put, hne]
    · intro G hG hDG
      by_cases he : G.f = F.f
      · obtain rfl := inj_of_nodup Flo.f hnf G hG F hF he
        exact ⟨WW.heap.size, hv1, (ext_below hE).size, Blk.new _ _ _⟩
      · have hDG' : D G.f = true := by
          have : (G.f == F.f) = false := by simpa using he
          simpa [this] using hDG
        obtain ⟨B, h1, h2, h3⟩ := hD G hG hDG'
        exact ⟨B, by rw [hv2 _ he]; exact h1, h2, h3.alloc _⟩
    · rw [hL, show (setAll L0 (dn ++ (fs.map Flo.f).filter D)).setIfInBounds F.f true = setAll (setAll L0 (dn ++ (fs.map Flo.f).filter D)) [F.f] from rfl, ← setAll_append]
      refine setAll_congr fun i => ?_
      have hm : F.f ∈ fs.map Flo.f := List.mem_map_of_mem hF
      simp only [List.mem_append, List.mem_filter, List.mem_singleton, Bool.or_eq_true, beq_iff_eq]
      constructor
      · rintro ((h | ⟨h1, h2⟩) | rfl)
        · exact .inl h
        · exact .inr ⟨h1, .inl h2⟩
        · exact .inr ⟨hm, .inr rfl⟩
      · rintro (h | ⟨h1, h2 | rfl⟩)
        · exact .inl (.inl h)
        · exact .inl (.inr ⟨h1, h2⟩)
        · exact .inr rfl
    · have := filter_lt (p := fun i => !D i) (q := fun i => !(D i || i == F.f)) (fun i hi => by simp at hi ⊢; exact hi.1) (List.mem_map_of_mem (f := Flo.f) hF) (by simp [hDf]) (by simp)
      omega
  have hsub := filter_subs D (fs.map Flo.f)
  have undone : ∀ i, (fs.map Flo.f).contains i = true → ((fs.map Flo.f).filter D).contains i = false → ∃ F ∈ fs, F.f = i ∧ D F.f = false := fun i h1 h2 => by
    obtain ⟨F, hF, rfl⟩ := List.mem_map.1 (by simpa using h1)
    refine ⟨F, hF, rfl, ?_⟩
    cases hDF : D F.f with
    | false => rfl
    | true =>
      have : F.f ∈ (fs.map Flo.f).filter D := List.mem_filter.2 ⟨List.mem_map_of_mem hF, hDF⟩
      rw [List.contains_iff_mem.2 this] at h2
      cases h2
  cases its with
  | nil =>
    have h1 := List.all_eq_true.1 hB _ hsub
    rw [Bool.or_eq_true] at h1
    rcases h1 with h1 | h1
    · have hall : (fs.map Flo.f).filter D = fs.map Flo.f := by simpa using h1
      rw [hall] at hL
      have := hend _ _ (hw v WW hb fun F hF G hG e => by
        rw [← e]
        refine hD G hG ?_
        have : G.f ∈ (fs.map Flo.f).filter D := by rw [hall]; exact List.mem_map_of_mem hG
        exact (List.mem_filter.1 this).2) (fuel - rest)
      rw [putS_agr hag hsl, show fuel - rest + rest = fuel from by simp only [restOps] at hf; omega] at this
      rw [hL, ← show Lend = setAll L0 (dn ++ fs.map Flo.f) from hLe]
      exact this
    · rw [Bool.and_eq_true, ← hL] at h1
      obtain ⟨h1, h2⟩ := h1
      have hfu : ∃ fuel', fuel = fuel' + 1 := by
        obtain ⟨i, hi⟩ : ∃ i, i ∈ Region.ready .any l.toArray L := by
          cases hr : Region.ready .any l.toArray L with
          | nil => rw [hr] at h2; simp at h2
          | cons x xs => exact ⟨x, by simp⟩
        have h3 := List.all_eq_true.1 h1 i hi
        rw [Bool.and_eq_true] at h3
        obtain ⟨F, hF, rfl, hDF⟩ := undone i h3.1 (by have := h3.2; rw [Bool.not_eq_true'] at this; exact this)
        have : F.f ∈ (fs.map Flo.f).filter fun i => !D i := List.mem_filter.2 ⟨List.mem_map_of_mem hF, by simp [hDF]⟩
        have := List.length_pos_of_mem this
        exact ⟨fuel - 1, by omega⟩
      obtain ⟨fuel', rfl⟩ := hfu
      refine wpAnyH_all rfl (by intro e; rw [e] at h2; simp at h2) fun i hi => ?_
      have h3 := List.all_eq_true.1 h1 i hi
      rw [Bool.and_eq_true] at h3
      obtain ⟨F, hF, rfl, hDF⟩ := undone i h3.1 (by have := h3.2; rw [Bool.not_eq_true'] at this; exact this)
      exact lay F hF hDF fuel' rfl
  | cons it its =>
    simp only [webB, Bool.and_eq_true] at hB
    obtain ⟨hB1, hB2⟩ := hB
    have h1 := List.all_eq_true.1 hB1 _ hsub
    rw [← hL] at h1
    cases it with
    | plain is =>
      simp only [stepB, Bool.and_eq_true] at h1
      simp only [plainIts, Bool.and_eq_true] at hpl
      have hlen : is.length ≤ fuel := by simp only [restOps, Itm.idx] at hf; omega
      rw [show fuel = is.length + (fuel - is.length) from by omega]
      refine wpAnyH_reads hs0 hQ is L aa WW hE h1.1 hpl.1 ?_
      have h2 := hw v WW hb
      rw [putS_agr hag hsl] at h2
      refine wpQuiet_mono' ?_ _ _ h2
      rintro a' ⟨hs', hw'⟩
      refine ih (fuel - is.length + its.length) (by simp at hm; omega) (fuel - is.length) (dn ++ is) its D _ a' WW a' WW v rfl hB2 hpl.2 hw' (Below.refl _ _) hE (Agr.refl _ _) hs' hD ?_ hLe ?_
      · rw [hL, ← setAll_append]
        refine setAll_congr fun i => ?_
        simp only [List.mem_append]
        constructor
        · rintro ((h | h) | h)
          · exact .inl (.inl h)
          · exact .inr h
          · exact .inl (.inr h)
        · rintro ((h | h) | h)
          · exact .inl (.inl h)
          · exact .inr h
          · exact .inl (.inr h)
      · simp only [restOps, Itm.idx] at hf; omega
    | act c need =>
      simp only [stepB, Bool.and_eq_true] at h1
      simp only [plainIts, Bool.and_eq_true] at hpl
      obtain ⟨fuel', rfl⟩ : ∃ fuel', fuel = fuel' + 1 := ⟨fuel - 1, by simp only [restOps, Itm.idx, List.length_cons] at hf; omega⟩
      refine wpAnyH_all rfl (by intro e; rw [e] at h1; simp at h1) fun i hi => ?_
      have h3 := List.all_eq_true.1 h1.1 i hi
      rw [Bool.or_eq_true] at h3
      rcases h3 with h3 | h3
      · rw [Bool.and_eq_true] at h3
        obtain ⟨F, hF, rfl, hDF⟩ := undone i h3.1 (by have := h3.2; rw [Bool.not_eq_true'] at this; exact this)
        exact lay F hF hDF fuel' rfl
      · rw [Bool.and_eq_true] at h3
        obtain rfl : i = c := by simpa using h3.1
        obtain ⟨o, ho⟩ := Option.isSome_iff_exists.1 hpl.1
        refine wpOp_step (by simpa using ho) fun K hK => ?_
        have h2 := hw v WW hb (fun f hfn F hF e => by
          have := List.all_eq_true.1 h3.2 f hfn
          have hmem : f ∈ (fs.map Flo.f).filter D := by simpa using this
          rw [← e]
          exact hD F hF (by rw [e]; exact (List.mem_filter.1 hmem).2)) o ho K
        rw [putS_agr hag hsl] at h2
        refine h2 fun a' W' hs' hb' hw' => hK _ _ ⟨ext_trans hE (ext_of hb'), ?_⟩
        refine ih (fuel' + its.length) (by simp at hm; omega) fuel' (dn ++ [i]) its D _ a' W' a' W' v rfl hB2 hpl.2 hw' (Below.refl _ _) (ext_trans hE (ext_of hb')) (Agr.refl _ _) hs' ?_ ?_ hLe ?_
        · intro F hF hDF
          obtain ⟨B, q1, q2, q3⟩ := hD F hF hDF
          exact ⟨B, q1, q2, q3.below hb' q3.lt⟩
        · rw [hL, show (setAll L0 (dn ++ (fs.map Flo.f).filter D)).setIfInBounds i true = setAll (setAll L0 (dn ++ (fs.map Flo.f).filter D)) [i] from rfl, ← setAll_append]
          refine setAll_congr fun j => ?_
          simp only [List.mem_append]
          constructor
          · rintro ((h | h) | h)
            · exact .inl (.inl h)
            · exact .inr h
            · exact .inl (.inr h)
          · rintro ((h | h) | h)
            · exact .inl (.inl h)
            · exact .inr h
            · exact .inl (.inr h)
        · simp only [restOps, Itm.idx, List.length_cons, List.length_nil] at hf; omega

end
section
open Go Go.RowKit Go.Sort
variable {P : Program} {Q : Exit → Act → World → Prop} {l : List Oper} {w0 : World} {fs : List Flo} {L0 : Array Bool} {rest : Nat} {fin : Act → World → Prop} {Lend : Array Bool}
/-- The beginning, in a region: nothing of the chain has come up, no block is laid. -/
theorem web_start (its : List Itm) (a : Act) (W : World) (hs0 : Region.noSelect l.toArray = true) (hQ : ∀ c a d v w, Q (.panic c) (Act.put a d v) w → Q (.panic c) a w) (hok : FlosOk P l Q fs) (hnf : (fs.map Flo.f).Nodup) (hnd : (fs.map Flo.d).Nodup)
    (hB : webB l.toArray (fs.map Flo.f) L0 [] its = true) (hpl : plainIts l its = true) (hE : Ext w0 W) (hd : ∀ F ∈ fs, F.d < a.tmps.size) (fuel : Nat) (hf : restOps its + fs.length + rest ≤ fuel)
    (hend : ∀ a W, fin a W → ∀ k, wpAnyH P .any l.toArray Q (Ext w0) (k + rest) (setAll L0 (doneIdx [] its ++ fs.map Flo.f)) a W) (hw : webP P l Q w0 fs fin its a W) : wpAnyH P .any l.toArray Q (Ext w0) fuel L0 a W := by
  obtain ⟨v, hv⟩ := slots_exist hnf hd
  refine wpAnyH_web hs0 hQ hok hnf hnd hend (fuel + its.length) fuel [] its (fun _ => false) L0 a W a W v rfl hB hpl hw (Below.refl _ _) hE (Agr.refl _ _) hv (fun F hF h => by cases h) ?_ rfl ?_
  · rw [List.filter_eq_nil_iff.2 (by simp)]; rfl
  · have h1 : ((fs.map Flo.f).filter fun _ => !false).length ≤ fs.length := by
      have := List.length_filter_le (fun _ => !false) (fs.map Flo.f)
      rwa [List.length_map] at this
    show restOps its + ((fs.map Flo.f).filter fun _ => !false).length + rest ≤ fuel
    omega
end
section
open Go Go.RowKit Go.Sort
variable {P : Program} {Q : Exit → Act → World → Prop} {l : List Oper} {w0 : World} {fs : List Flo} {L0 : Array Bool} {rest : Nat} {fin : Act → World → Prop} {Lend : Array Bool}
/-- .. nothing else in the region, ahead of its tail. -/
theorem web_start0 (its : List Itm) (a : Act) (W : World) (hs0 : Region.noSelect l.toArray = true) (hQ : ∀ c a d v w, Q (.panic c) (Act.put a d v) w → Q (.panic c) a w) (hok : FlosOk P l Q fs) (hnf : (fs.map Flo.f).Nodup) (hnd : (fs.map Flo.d).Nodup)
    (hB : webB l.toArray (fs.map Flo.f) L0 [] its = true) (hpl : plainIts l its = true) (hE : Ext w0 W) (hd : ∀ F ∈ fs, F.d < a.tmps.size) (fuel : Nat) (hf : restOps its + fs.length ≤ fuel)
    (hr : Region.ready .any l.toArray (setAll L0 (doneIdx [] its ++ fs.map Flo.f)) = []) (hw : webP P l Q w0 fs (fun a W => Q .normal a W) its a W) : wpAnyH P .any l.toArray Q (Ext w0) fuel L0 a W :=
  web_start (rest := 0) its a W hs0 hQ hok hnf hnd hB hpl hE hd fuel (by omega) (fun _ _ h k => wpAnyH_done hr h _) hw
end
section
open Go Go.RowKit Go.Sort
variable {P : Program} {ops : Array Oper} {Q : Exit → Act → World → Prop} {o : Oper}
/-- The block of a variable. -/
abbrev floVar (f d : Nat) (T : TypeId) (Z : Array Value) : Flo := ⟨f, d, T, Z, fun B => .pointer (some ⟨B, 0, none⟩)⟩
end
section
open Go Go.RowKit Go.Sort
variable {P : Program} {ops : Array Oper} {Q : Exit → Act → World → Prop} {o : Oper}
/-- The block of an empty slice. -/
abbrev floNil (f d : Nat) (T : TypeId) : Flo := ⟨f, d, T, #[], fun B => .slice (some ⟨B, 0, none⟩) 0 0⟩
end
section
open Go Go.RowKit Go.Sort
variable {P : Program} {ops : Array Oper} {Q : Exit → Act → World → Prop} {o : Oper}
theorem flo_var {f d : Nat} {T : TypeId} {Z : Array Value} (hg : o.guard = none) (hd : o.dst = some d) (ho : o.op = .alloc T) (z : Value) (i : TypeInfo) (hi : P.info? T = some i) (hz : i.zero = some z) (hc : z.cells = Z) : FloOk P ops Q o (floVar f d T Z) := by
  intro a W K h
  refine step_alloc0 hg T ho Z z i hi hz hc ?_
  rw [hd]; exact h
end
section
open Go Go.RowKit Go.Sort
variable {P : Program} {ops : Array Oper} {Q : Exit → Act → World → Prop} {o : Oper}
theorem flo_nil {f d : Nat} {t T : TypeId} (hg : o.guard = none) (hd : o.dst = some d) (ho : o.op = .buildSlice t 0 #[]) (hr : ∀ w : World, (Instr.buildSlice t 0 #[]).run P w = .ok (.slice (some ⟨w.heap.size, 0, none⟩) 0 0) (w.alloc (.cells #[] T))) : FloOk P ops Q o (floNil f d T) := by
  intro a W K h
  refine step_empty hg t T ho (hr W) ?_
  rw [hd]; exact h
end
section
open Go Go.RowKit Go.Sort
variable {P : Program} {ops : Array Oper} {Q : Exit → Act → World → Prop} {o : Oper}
/-- append([]T{}, x...): the empty slice's block lies at or beyond the base. -/
theorem step_appe {a : Act} {w : World} {K : Act → World → Prop} {E : Prop} (hg : o.guard = none) (s x : Operand) (t : TypeId) (hop : o.op = Op.call { callee := Callee.builtin Builtin.append, args := #[s, x], argTypes := #[t, t] })
    (e : TypeId) (i : TypeInfo) (z : Value) (sz bytes : Nat) (ht : P.underlying t = some (.slice e)) (hi : P.info? e = some i) (hz : i.zero = some z) (hs : i.size = sz) (hby : i.bytes = bytes) (hzs : z.cells.size = sz) (hsz : 0 < sz)
    (base B : Nat) (hb : base ≤ B) (hB : Blk w B e #[]) (hv : a.eval s = .slice (some ⟨B, 0, none⟩) 0 0) (A : Option Addr) (m c : Nat) (news : List Value) (hx : a.eval x = .slice A m c) (hrd : Rd w sz A m news)
    (h63 : m ≤ maxLen) (hbytes : m * bytes ≤ 140737488355328)
    (hK : ∀ v' w', AppZ w' base e sz v' m news → Below w.heap.size w w' → (∀ k, v'.ownBlock = some k → ∃ cur, Blk w' k e cur) → K (a.put o.dst v') w') :
    if Region.wanted o (yielded ops a.tmps) = true then Oper.wp P o a w K Q else E := by
  have hw : Region.wanted o (yielded ops a.tmps) = true := by simp [Region.wanted, hg]
  rw [if_pos hw]
  have key : ∃ v' w', (Builtin.append_ #[t, t] o.type #[.slice (some ⟨B, 0, none⟩) 0 0, .slice A m c]).run P w = .ok v' w' ∧ AppZ w' base e sz v' m news ∧ Below w.heap.size w w' ∧ ∀ k, v'.ownBlock = some k → ∃ cur, Blk w' k e cur := by
    by_cases hm : m = 0
    · subst hm
      have hn : news = [] := List.eq_nil_of_length_eq_zero (by have := hrd.1; omega)
      subst hn
      exact ⟨_, _, run_append_zero w t o.type e i ht hi _ _ _ _ _ (Nat.le_refl _), .inl ⟨rfl, rfl, _, rfl, hb, hB.lt⟩, Below.refl _ _, fun k e' => by simp only [Value.ownBlock, Option.some.injEq] at e'; subst e'; exact ⟨_, hB⟩⟩
    · obtain ⟨b, off, rfl, hc⟩ := hrd.2.2 (by omega)
      have hnews : ∀ j u, news[j]? = some u → w.cell? ((⟨b, off, none⟩ : Addr).add j) = some u := fun j u hj => by
        rw [show (⟨b, off, none⟩ : Addr).add j = ⟨b, off + j, none⟩ from by unfold Addr.add; split <;> simp_all]
        exact hc j u hj
      obtain ⟨v', w', hr, ho, hg'⟩ := run_append_arg_grows (P := P) w t o.type e i z sz bytes ht hi hz hs hby hzs hsz ⟨B, 0, none⟩ 0 0 [] (by simp) (by simp) ⟨b, off, none⟩ m c news hrd.1 hnews (by omega) (by omega) (by rw [Nat.zero_add]; exact hbytes)
      rw [Nat.zero_add, List.nil_append] at ho
      refine ⟨v', w', hr, .inr (ho.mono (by have := hB.lt; omega)), (Below.refl _ w).grown hg' (Nat.le_refl _) (fun k e => by cases e), fun k e' => ?_⟩
      rcases ho.2 with ⟨hv', _⟩ | ⟨g, cap, cur, hv', _, hg2, _⟩
      · rw [hv'] at e'; cases e'
      · rw [hv'] at e'
        simp only [Value.ownBlock, Option.some.injEq] at e'
        subst e'
        exact ⟨cur, hg2⟩
  obtain ⟨v', w', hr, h2, h3, h4⟩ := key
  unfold Oper.wp execOp
  simp only [hop, resolve, invoke, builtin, Sem.run_bind, Sem.run_pure, Result.andThen_ok, List.map_toArray, List.map_cons, List.map_nil, hv, hx, hr]
  exact hK v' w' h2 h3 h4
end
section
open Go.RowKit Go.Sort
theorem App.nil (w : World) (base : Nat) (e : TypeId) : App w base e (.slice none 0 0) 0 [] := .inr (World.ownsRow_nil _ _ _ _)
end
section
open Go.RowKit Go.Sort
theorem App.keep {w w' : World} {base n : Nat} {e : TypeId} {v : Value} {xs : List Value} (h : App w base e v n xs) (hb : Below w.heap.size w w') : App w' base e v n xs := h.below hb (Nat.le_refl _)

end
section
open Go.RowKit Go.Sort
theorem results_row_tmp {P : Program} {fn : Func} {p u : Tmp} {ty : TypeId} (h : fn.results = #[.cell p ty, .tmp u]) (tmps : Array Value) (w : World) (g : Nat) (t : TypeId) (cs : Array Value) (fr : Nat × Nat) (d : TypeDesc)
    (hp : tmps.getD p undef = .pointer (some ⟨g, 0, none⟩)) (hg : w.heap[g]? = some (.cells cs t fr))
    (hu : P.underlying ty = some d) (hd : d.isRow = true) (hi : (P.info? ty).map (·.size) = some cs.size) :
    (results fn tmps).run P w = .ok (.tuple #[.agg cs, tmps.getD u undef]) w := by
  rw [results_cell_tmp h, hp]
  simp [asAddr, run_loadVar_row w g t ty cs fr d hg hu (by cases d <;> first | rfl | exact hd) hi]
end
section
open Go.RowKit Go.Sort
theorem made_one (v : Value) (k : Nat) : madeCells #[v] k = (List.replicate k v).toArray := by
  apply Array.ext
  · simp [madeCells]
  · intro j h1 h2
    simp [madeCells, Nat.mod_one]
end
section
open Go.RowKit Go.Sort
variable {P : Program} {ops : Array Oper} {Q : Exit → Act → World → Prop} {o : Oper} {a : Act} {w : World} {K : Act → World → Prop} {E : Prop}
/-- A row is built of two parts. -/
theorem step_build2 (hg : o.guard = none) (t : TypeId) (i j : Nat) (x y : Operand) (ho : o.op = .build t #[(i, x), (j, y)]) (vx vy : Value) (hx : a.eval x = vx) (hy : a.eval y = vy) (Z : Array Value) (hZ : P.built t [(i, vx), (j, vy)] = some Z)
    (h : K (a.put o.dst (.agg Z)) w) : if Region.wanted o (yielded ops a.tmps) = true then Oper.wp P o a w K Q else E := by
  have hw : Region.wanted o (yielded ops a.tmps) = true := by simp [Region.wanted, hg]
  rw [if_pos hw]
  unfold Oper.wp execOp
  simp only [ho, Sem.run_bind]
  rw [show (Array.map (fun (x : Nat × Operand) => (x.fst, a.eval x.snd)) #[(i, x), (j, y)]) = #[(i, vx), (j, vy)] from by simp [hx, hy], run_build w t _ Z hZ]
  exact h
end
section
open Go.RowKit Go.Sort
theorem App.own {w : World} {base n : Nat} {e : TypeId} {v : Value} {xs : List Value} (h : App w base e v n xs) (hn : 0 < n) : ∃ A c, v = .slice A n c ∧ n ≤ c ∧ w.ownsRow base e 1 v n xs := by
  obtain ⟨A, c, rfl, hc, _⟩ := h.rd
  rcases h with ⟨h0, _⟩ | h
  · omega
  · exact ⟨A, c, rfl, hc, h⟩

end
section
open Go.RowKit Go.Sort
theorem slV_inj {v u : Sl} (h : slV v = slV u) : v = u := by
  cases v; cases u
  simp only [slV, Value.slice.injEq] at h
  obtain ⟨rfl, rfl, rfl⟩ := h
  rfl
end
section
open Go.RowKit Go.Sort
theorem Rd.uniq {w : World} {A : Option Addr} {n : Nat} {vs us : List Sl} (h : Rd w 1 A n (vs.map slV)) (h' : Rd w 1 A n (us.map slV)) : vs = us := by
  have hl := h.len1
  have hl' := h'.len1
  apply List.ext_getElem?
  intro k
  by_cases hk : k < n
  · obtain ⟨b, off, x, e, hx, hc⟩ := h.at_ hk
    obtain ⟨b', off', y, e', hy, hc'⟩ := h'.at_ hk
    rw [e] at e'
    cases e'
    rw [hc] at hc'
    rw [hx, hy, slV_inj (Option.some.inj hc')]
  · rw [List.getElem?_eq_none (by omega), List.getElem?_eq_none (by omega)]
end
section
open Go.RowKit Go.Sort
/-- A row is built of two parts. -/
theorem wpList_build2 {P : Program} {ops : Array Oper} {rest : List Oper} {o : Oper} {a : Act} {w : World} {Q : Exit → Act → World → Prop} (hg : o.guard = none) (t : TypeId) (i j : Nat) (x y : Operand) (ho : o.op = .build t #[(i, x), (j, y)]) (vx vy : Value) (hx : a.eval x = vx) (hy : a.eval y = vy) (Z : Array Value) (hZ : P.built t [(i, vx), (j, vy)] = some Z)
    (h : wpList P ops Q rest (a.put o.dst (.agg Z)) w) : wpList P ops Q (o :: rest) a w := by
  refine wpList_plain hg fun K hK => ?_
  have := step_build2 (P := P) (ops := ops) (Q := Q) (E := True) (K := K) (w := w) hg t i j x y ho vx vy hx hy Z hZ (hK _ _ h)
  have hw : Region.wanted o (yielded ops a.tmps) = true := by simp [Region.wanted, hg]
  rwa [if_pos hw] at this
end
section
open Go.RowKit Go.Sort
/-- A row is built of three parts. -/
theorem wpList_build3 {P : Program} {ops : Array Oper} {rest : List Oper} {o : Oper} {a : Act} {w : World} {Q : Exit → Act → World → Prop} (hg : o.guard = none) (t : TypeId) (i j k : Nat) (x y z : Operand) (ho : o.op = .build t #[(i, x), (j, y), (k, z)]) (vx vy vz : Value) (hx : a.eval x = vx) (hy : a.eval y = vy) (hz : a.eval z = vz) (Z : Array Value) (hZ : P.built t [(i, vx), (j, vy), (k, vz)] = some Z)
    (h : wpList P ops Q rest (a.put o.dst (.agg Z)) w) : wpList P ops Q (o :: rest) a w := by
  refine wpList_plain hg fun K hK => ?_
  unfold Oper.wp execOp
  simp only [ho, Sem.run_bind]
  rw [show (Array.map (fun (x : Nat × Operand) => (x.fst, a.eval x.snd)) #[(i, x), (j, y), (k, z)]) = #[(i, vx), (j, vy), (k, vz)] from by simp [hx, hy, hz], run_build w t _ Z hZ]
  exact hK _ _ h

end
section
open Go.RowKit Go.Sort
/-- A chunk with its number and its proof, as it lies in a list. -/
structure Ck where
  (i : Int) (d l : Sl)
end
section
open Go.RowKit Go.Sort
def ckV (x : Ck) : List Value := [.int .i64 x.i, slV x.d, slV x.l]
end
section
open Go.RowKit Go.Sort
theorem ck_one (x : Ck) : ∀ u ∈ ckV x, u.oneCell' = true := fun u hu => by
  simp [ckV] at hu
  rcases hu with rfl | rfl | rfl <;> rfl

end
section
open Go.RowKit Go.Sort
/-- A row is built of one part. -/
theorem wpList_buildOne {P : Program} {ops : Array Oper} {rest : List Oper} {o : Oper} {a : Act} {w : World} {Q : Exit → Act → World → Prop} (hg : o.guard = none) (t : TypeId) (i : Nat) (x : Operand) (ho : o.op = .build t #[(i, x)]) (vx : Value) (hx : a.eval x = vx) (Z : Array Value) (hZ : P.built t [(i, vx)] = some Z)
    (h : wpList P ops Q rest (a.put o.dst (.agg Z)) w) : wpList P ops Q (o :: rest) a w := by
  refine wpList_plain hg fun K hK => ?_
  unfold Oper.wp execOp
  simp only [ho, Sem.run_bind]
  rw [show (Array.map (fun (x : Nat × Operand) => (x.fst, a.eval x.snd)) #[(i, x)]) = #[(i, vx)] from by simp [hx], run_build w t _ Z hZ]
  exact hK _ _ h
end
section
open Go.RowKit Go.Sort
variable {P : Program} {ops : Array Oper} {Q : Exit → Act → World → Prop} {o : Oper} {a : Act} {w : World} {K : Act → World → Prop} {E : Prop}
/-- 'make([]T, ..)'. -/
theorem step_mk (hg : o.guard = none) (t : TypeId) (x y : Operand) (ho : o.op = .makeSlice t x y) (vx vy : Value) (hx : a.eval x = vx) (hy : a.eval y = vy) (r : Value) (W' : World) (hr : (Instr.makeSlice t vx vy).run P w = .ok r W')
    (h : K (a.put o.dst r) W') : if Region.wanted o (yielded ops a.tmps) = true then Oper.wp P o a w K Q else E := by
  have hw : Region.wanted o (yielded ops a.tmps) = true := by simp [Region.wanted, hg]
  rw [if_pos hw]
  subst hx hy
  unfold Oper.wp execOp
  simp only [ho, Sem.run_bind, Sem.run_pure, hr, Result.andThen_ok]
  exact h
end
section
open Go.RowKit Go.Sort
theorem step_build3 {P : Program} {ops : Array Oper} {Q : Exit → Act → World → Prop} {o : Oper} {a : Act} {w : World} {K : Act → World → Prop} {E : Prop} (hg : o.guard = none) (t : TypeId) (i j k : Nat) (x y z : Operand) (ho : o.op = .build t #[(i, x), (j, y), (k, z)]) (vx vy vz : Value) (hx : a.eval x = vx) (hy : a.eval y = vy) (hz : a.eval z = vz) (Z : Array Value) (hZ : P.built t [(i, vx), (j, vy), (k, vz)] = some Z)
    (h : K (a.put o.dst (.agg Z)) w) : if Region.wanted o (yielded ops a.tmps) = true then Oper.wp P o a w K Q else E := by
  have hw : Region.wanted o (yielded ops a.tmps) = true := by simp [Region.wanted, hg]
  rw [if_pos hw]
  unfold Oper.wp execOp
  simp only [ho, Sem.run_bind]
  rw [show (Array.map (fun (x : Nat × Operand) => (x.fst, a.eval x.snd)) #[(i, x), (j, y), (k, z)]) = #[(i, vx), (j, vy), (k, vz)] from by simp [hx, hy, hz], run_build w t _ Z hZ]
  exact h
end
section
open Go.RowKit Go.Sort
/-- What is left as it was by a write to a block of another type. -/
theorem AppZ.setRow {w : World} {base e sz n g t : Nat} {v : Value} {xs : List Value} {old cells : Array Value} (h : AppZ w base e sz v n xs) (hg : Blk w g t old) (hne : t ≠ e) : AppZ (w.setRow g cells) base e sz v n xs := by
  have hgr := ((KeptIn.refl (fun k => k ≠ g) w).setRow (g := g) (fun h => h rfl) cells).grownBut
  rcases h with ⟨h1, h2, a, h3, h4, h5⟩ | h
  · exact .inl ⟨h1, h2, a, h3, h4, Nat.lt_of_lt_of_le h5 hgr.size⟩
  · refine .inr (h.kept hgr ?_)
    rcases h.2 with ⟨rfl, _⟩ | ⟨g', cap, cur, rfl, _, hgg, _⟩
    · exact .inl rfl
    · exact .inr fun e' => by
        have : g' = g := by simpa [Value.ownBlock] using e'
        subst this
        exact (Blk.ne hg hgg hne) rfl
end
section
open Go.RowKit Go.Sort
theorem AppZ.setAt {w : World} {base e sz n g i t : Nat} {v u : Value} {xs : List Value} {old : Array Value} (h : AppZ w base e sz v n xs) (hg : Blk w g t old) (hne : t ≠ e) : AppZ (w.setCell ⟨g, i, none⟩ u) base e sz v n xs := by
  have hgr := ((KeptIn.refl (fun k => k ≠ g) w).setAt (p := ⟨g, i, none⟩) (fun h => h rfl) u).grownBut
  rcases h with ⟨h1, h2, a, h3, h4, h5⟩ | h
  · exact .inl ⟨h1, h2, a, h3, h4, Nat.lt_of_lt_of_le h5 hgr.size⟩
  · refine .inr (h.kept hgr ?_)
    rcases h.2 with ⟨rfl, _⟩ | ⟨g', cap, cur, rfl, _, hgg, _⟩
    · exact .inl rfl
    · exact .inr fun e' => by
        have : g' = g := by simpa [Value.ownBlock] using e'
        subst this
        exact (Blk.ne hg hgg hne) rfl
end
section
open Go.RowKit Go.Sort
theorem AppZ.trd {w : World} {base e sz n c : Nat} {A : Option Addr} {xs : List Value} (h : AppZ w base e sz (.slice A n c) n xs) : TRd w e sz A n xs := by
  rcases h with ⟨rfl, rfl, _⟩ | h
  · exact ⟨Rd.nil _ _ _, fun h => absurd h (Nat.lt_irrefl 0)⟩
  · exact TRd.of_own h
end
section
open Go.RowKit Go.Sort
theorem step_load_mid {P : Program} {ops : Array Oper} {Q : Exit → Act → World → Prop} {o : Oper} {a : Act} {w : World} {K : Act → World → Prop} (hg : o.guard = none) (ty : TypeId) (x : Operand) (ho : o.op = .load ty x)
    (b off : Nat) (hx : a.eval x = .pointer (some ⟨b, off, none⟩)) (cs : List Value) (d : TypeDesc) (hc : w.rangeAt b off cs)
    (hu : P.underlying ty = some d) (hd : d.isRow = true) (hi : (P.info? ty).map (·.size) = some cs.length)
    (h : K (a.put o.dst (.agg cs.toArray)) w) : StepP P ops Q o a w K := by
  have hw : Region.wanted o (yielded ops a.tmps) = true := by simp [Region.wanted, hg]
  unfold StepP
  rw [if_pos hw]
  exact wp_load_mid ty x ho b off hx cs d hc hu hd hi h
end
section
open Go.RowKit Go.Sort
/-- A region that draws its order, all of it: reads first, then one walk along the chain (web_start0). -/
theorem wp_region_web {P : Program} {id : Nat} {Q : Exit → Act → World → Prop} {a : Act} {w : World} {l : List Oper} (is1 : List Nat) (fuel : Nat) (hm : P.follows .mixedOrders = true)
    (hs : Region.noSelect l.toArray = true) (hQ : ∀ c a d v w, Q (.panic c) (Act.put a d v) w → Q (.panic c) a w)
    (hB1 : orderB .any l.toArray is1 (Array.replicate l.length false) = true) (hp : (pickOps l is1).all plainOp = true) (hlen : is1.length + fuel = l.length)
    (h : wpQuiet P l.toArray (Ext w) (fun a1 => wpAnyH P .any l.toArray Q (Ext w) fuel (setAll (Array.replicate l.length false) is1) a1 w.drew) (pickOps l is1) a) :
    (Code.region id l.toArray true).wp P Q a w := by
  refine wp_region_held (S := Ext w) hm ?_
  have key : wpAnyH P .any l.toArray Q (Ext w) (is1.length + fuel) (Array.replicate l.length false) a w.drew := by
    refine wpAnyH_reads hs hQ is1 _ a w.drew (ext_drew (ext_refl w)) hB1 hp ?_
    exact h
  rw [hlen] at key
  simpa using key
end
section
open Go.RowKit Go.Sort
theorem flat_bd {h : List (List UInt8)} {K : Nat} (hh : ∀ x ∈ h, x.length ≤ K) : h.flatten.length ≤ h.length * K := by
  induction h with
  | nil => simp
  | cons x xs ih =>
    have h1 := hh x (by simp)
    have h2 := ih fun y hy => hh y (by simp [hy])
    rw [List.flatten_cons, List.length_append, List.length_cons, Nat.add_mul]
    omega

end
section
open Go.RowKit Go.Sort
theorem Blk.setAt {w : World} {B t t' : Nat} {cs cs' : Array Value} {p : Addr} (h : Blk w B t cs) (hg : Blk w p.block t' cs') (hne : t ≠ t') (v : Value) : Blk (w.setCell p v) B t cs :=
  h.keptIn ((KeptIn.refl (fun k => k ≠ p.block) w).setAt (fun h => h rfl) v) (h.ne hg hne)

end
section
open Go.RowKit Go.Sort
theorem wpList_buildN {P : Program} {ops : Array Oper} {rest : List Oper} {o : Oper} {a : Act} {w : World} {Q : Exit → Act → World → Prop} (hg : o.guard = none) (t : TypeId) (parts : Array (Nat × Operand)) (ho : o.op = .build t parts) (vals : List (Nat × Value)) (hv : parts.toList.map (fun (x : Nat × Operand) => (x.fst, a.eval x.snd)) = vals) (Z : Array Value) (hZ : P.built t vals = some Z)
    (h : wpList P ops Q rest (a.put o.dst (.agg Z)) w) : wpList P ops Q (o :: rest) a w := by
  refine wpList_plain hg fun K hK => ?_
  unfold Oper.wp execOp
  simp only [ho, Sem.run_bind]
  rw [show parts.map (fun (x : Nat × Operand) => (x.fst, a.eval x.snd)) = vals.toArray from by subst hv; obtain ⟨l⟩ := parts; simp only [List.map_toArray], run_build w t _ Z hZ]
  exact hK _ _ h

end
end Go.Proofs.Yteofgkdpknaapaa
