/- Words for a range over a function: what a round keeps, a variable's block, and a body that collects. -/
import Derived.RangeFuncBox
import Derived.RangeFuncLeaves
import Derived.RangeFuncNested
import Derived.StillTailTactics
import Derived.Shelf.Abstract
import Derived.OwnWalkIn
import Derived.TacticsInMore
import Derived.LoopNIn
import Derived.LoopIn
import Derived.Test.YtgblkaoioeceiaaDoorBase
namespace Go.Proofs.YtgblkaoioeceiaaDoor
open Go.RowKit

/-- The blocks of S lie as they lay. -/
structure KeptIn (S : Nat → Prop) (w w' : World) : Prop where
  os : w'.os = w.os
  tape : w'.tape = w.tape
  output : w'.output = w.output
  size : w.heap.size ≤ w'.heap.size
  block : ∀ k, S k → w'.heap[k]? = w.heap[k]?

section
variable {S : Nat → Prop} {a b c w w' : World}
theorem KeptIn.refl (S : Nat → Prop) (w : World) : KeptIn S w w := ⟨rfl, rfl, rfl, Nat.le_refl _, fun _ _ => rfl⟩
theorem KeptIn.trans (h : KeptIn S a b) (k : KeptIn S b c) : KeptIn S a c :=
  ⟨k.os.trans h.os, k.tape.trans h.tape, k.output.trans h.output, Nat.le_trans h.size k.size, fun i hi => (k.block i hi).trans (h.block i hi)⟩
theorem KeptIn.mono {S' : Nat → Prop} (h : KeptIn S w w') (hS : ∀ k, S' k → S k) : KeptIn S' w w' := ⟨h.os, h.tape, h.output, h.size, fun k hk => h.block k (hS k hk)⟩
theorem KeptIn.cell (h : KeptIn S w w') {p : Addr} (hp : S p.block) : w'.cell? p = w.cell? p := World.cell?_of_block (w := w) (h.block p.block hp)
theorem KeptIn.of_below {B : Nat} (h : Below B w w') (hS : ∀ k, S k → k < B) : KeptIn S w w' := ⟨h.os, h.tape, h.output, h.size, fun k hk => h.block k (hS k hk)⟩
theorem KeptIn.below {B : Nat} (h : KeptIn S w w') (hS : ∀ k, k < B → S k) : Below B w w' := ⟨h.os, h.tape, h.output, h.size, fun k hk => h.block k (hS k hk)⟩
theorem KeptIn.grown {row : Option Nat} (h : KeptIn S a w) (hg : w.grownBy w' row) (hlt : ∀ k, S k → k < w.heap.size) (hr : ∀ k, row = some k → ¬ S k) : KeptIn S a w' :=
  h.trans ⟨hg.os, hg.tape, hg.output, hg.size, fun k hk => hg.block k (hlt k hk) (fun e => hr k e.symm hk)⟩
theorem KeptIn.alloc (h : KeptIn S a w) (hlt : ∀ k, S k → k < w.heap.size) (o : Obj) : KeptIn S a (w.alloc o) := h.grown (World.grownBy_alloc w o none) hlt (fun k e => by cases e)
theorem KeptIn.setCell (h : KeptIn S a w) (hlt : ∀ k, S k → k < w.heap.size) {B : Nat} (hB : ¬ S B) (v : Value) : KeptIn S a (w.setCell ⟨B, 0, none⟩ v) :=
  h.grown (grownBy_setCell' w B v) hlt (fun k e => by cases e; exact hB)
theorem keptK_t {A B C : World} (h : KeptIn S A B) (k : KeptIn S B C) : KeptIn S A C := h.trans k
theorem keptK_b (hS : ∀ k, S k → k < w.heap.size) (W : World) (l : Nat) (o o' : Obj) (hl : w.heap.size ≤ l) (h : W.heap[l]? = some o) (_ : o.isCells = false) (_ : o.isWalk = false) : KeptIn S W (W.putObj l o') := by
  have hg := grownBy_putObj' W l o'
  have hlt := (Array.getElem?_eq_some_iff.1 h).1
  exact ⟨hg.os, hg.tape, hg.output, hg.size, fun k hk => hg.block k (by have := hS k hk; omega) (fun e => by cases e; have := hS l hk; omega)⟩
theorem ownFrom_keptIn {β : Type} {B : Nat} (hS : ∀ k, S k → k < B) (hB : ∀ k, S k → k < w.heap.size) : OwnFrom B (fun (_ : β) W => KeptIn S w W) :=
  fun _ X Y row hs hg hr => hs.grown hg (fun k hk => Nat.lt_of_lt_of_le (hB k hk) hs.size) (fun k e hk => by have := (hr k e).1; have := hS k hk; omega)
end

/-- Block B holds just these cells. -/
def Blk (W : World) (B : Nat) (t : TypeId) (cs : Array Value) : Prop := W.heap[B]? = some (.cells cs t (0, 0))
section
variable {W W' : World} {B : Nat} {t : TypeId} {cs : Array Value}
theorem Blk.lt (h : Blk W B t cs) : B < W.heap.size := (Array.getElem?_eq_some_iff.1 h).1
theorem Blk.cell (h : Blk W B t cs) (i : Nat) : W.cell? ⟨B, i, none⟩ = cs[i]? := cell_of_row W B i cs t (0, 0) h
theorem Blk.frozen (h : Blk W B t cs) (i : Nat) : W.frozen? ⟨B, i, none⟩ = false := by
  unfold Blk at h
  simp [World.frozen?, h]
theorem Blk.new (W : World) (t : TypeId) (cs : Array Value) : Blk (W.alloc (.cells cs t)) W.heap.size t cs := heap_alloc_new W _
theorem Blk.alloc (h : Blk W B t cs) (o : Obj) : Blk (W.alloc o) B t cs := (Below.heap_alloc W o B h.lt).trans h
theorem Blk.drew (h : Blk W B t cs) : Blk W.drew B t cs := h
theorem Blk.kept {row : Option Nat} (h : Blk W B t cs) (hg : W.grownBy W' row) (hne : some B ≠ row) : Blk W' B t cs := (hg.block B h.lt hne).trans h
theorem Blk.keptIn {S : Nat → Prop} (h : Blk W B t cs) (hk : KeptIn S W W') (hB : S B) : Blk W' B t cs := (hk.block B hB).trans h
theorem Blk.below {n : Nat} (h : Blk W B t cs) (hk : Below n W W') (hB : B < n) : Blk W' B t cs := (hk.block B hB).trans h
theorem blk_own {β : Type} (B : Nat) (t : TypeId) (f : β → Array Value) : Own (fun s W => Blk W B t (f s)) := fun s X Y row hs hg hrow =>
  hs.kept hg (fun e' => by obtain ⟨o, ho, hc⟩ := hrow B e'.symm; rw [show X.heap[B]? = _ from hs] at ho; cases ho; cases hc)
theorem Blk.of_boxed {v : Value} (h : Boxed W B t v) : Blk W B t #[v] := h
end

theorem boxed_keptIn {S : Nat → Prop} {W W' : World} {B : Nat} {t : TypeId} {v : Value} (h : Boxed W B t v) (hk : KeptIn S W W') (hB : S B) : Boxed W' B t v := (hk.block B hB).trans h
theorem Rd.keptIn {S : Nat → Prop} {w w' : World} {sz n : Nat} {A : Option Addr} {xs : List Value} (h : Rd w sz A n xs) (hk : KeptIn S w w') (hS : ∀ b off, 0 < n → A = some ⟨b, off, none⟩ → S b) : Rd w' sz A n xs :=
  ⟨h.1, h.2.1, fun hn => by
    obtain ⟨b, off, e, hc⟩ := h.2.2 hn
    exact ⟨b, off, e, fun j u hu => (hk.cell (p := ⟨b, off + j, none⟩) (hS b off hn e)).trans (hc j u hu)⟩⟩

/-- 'out = append(out, ..)' in a round, the box at B below n₀, the row at or beyond n₀: what the walk owes. -/
theorem boxed_append {W w1 : World} {n₀ B : Nat} {t e : TypeId} {size : Nat} {v v' : Value} {k m : Nat} {xs ys : List Value} {tmp : Obj}
    (hv : Boxed W B t v) (hrow : W.ownsRow n₀ e size v k xs) (hn₀ : n₀ ≤ W.heap.size) (hB : B < n₀)
    (hown' : w1.ownsRow n₀ e size v' m ys) (hgrow : (W.alloc tmp).grownBy w1 v.ownBlock) :
    Boxed w1 B t v ∧ Boxed (w1.setCell ⟨B, 0, none⟩ v') B t v' ∧ (w1.setCell ⟨B, 0, none⟩ v').ownsRow n₀ e size v' m ys ∧ KeepsOthers W (w1.setCell ⟨B, 0, none⟩ v') ∧ KeptIn (fun k => k < n₀ ∧ k ≠ B) W (w1.setCell ⟨B, 0, none⟩ v') := by
  have hne : some B ≠ v.ownBlock := fun e => by have := (hrow.lt B e.symm).1; omega
  have hne' : v'.ownBlock ≠ some B := fun e => by have := (hown'.lt B e).1; omega
  have hv1 : Boxed w1 B t v := (hv.alloc tmp).kept hgrow hne
  refine ⟨hv1, hv1.set v', hown'.kept (grownBy_setCell' w1 B v') (.inr hne'), ?_, ?_⟩
  · refine ((KeepsOthers.alloc W tmp).trans (KeepsOthers.of_grownBy hgrow fun j o ej hj => ?_)).trans (KeepsOthers.setCell _ _ _)
    rcases (hrow.alloc tmp).2 with ⟨rfl, _⟩ | ⟨g, cap, cur, rfl, _, hgb, _⟩
    · simp [Value.ownBlock] at ej
    · obtain rfl : g = j := by simpa [Value.ownBlock] using ej
      rw [hgb] at hj; cases hj; rfl
  · have hs : ∀ k, (k < n₀ ∧ k ≠ B) → k < (W.alloc tmp).heap.size := fun k hk => by simp; omega
    have h1 : KeptIn (fun k => k < n₀ ∧ k ≠ B) W w1 := ((KeptIn.refl _ W).alloc (fun k hk => by omega) tmp).grown hgrow hs (fun k ej hk => by have := (hrow.lt k ej).1; omega)
    exact h1.setCell (fun k hk => by have := h1.size; omega) (by omega) v'

/-- The cells of a new block. -/
theorem cells_new (w : World) (cs : List Value) (t : TypeId) : ∀ j u, cs[j]? = some u → (w.alloc (.cells cs.toArray t)).cell? ((⟨w.heap.size, 0, none⟩ : Addr).add j) = some u := by
  intro j u hj
  have h := (Blk.new w t cs.toArray).cell j
  have hadd : (⟨w.heap.size, 0, none⟩ : Addr).add j = ⟨w.heap.size, j, none⟩ := by unfold Addr.add; split <;> simp_all
  rw [hadd, h]
  simpa using hj

/-! A region in a round: what holds of it outside holds within, where it defers nothing. -/
theorem oper_inRound {l n : Nat} {P : Program} {o : Oper} {a : Act} {w : World} {K : Act → World → Prop} {Q : Exit → Act → World → Prop} (hd : ∀ c, o.op ≠ .defer c) (hout : ¬ LetsOut Q)
    (h : o.wp P a w K Q ∨ (o.asks P a w ∧ LetsOut Q)) : o.wpIn (Fence.wide.inRound l) n P a w K Q := by
  have h' := h.resolve_right (fun h => hout h.2)
  unfold Oper.wpIn
  refine ⟨fun _ _ => trivial, ?_⟩
  rw [Oper.semAt_eq _ _ _ hd]
  unfold Oper.wp at h'
  generalize (execOp a.eval o).run P w = r at *
  cases r with
  | ok x w' =>
    cases x <;> simp only [Oper.upon, Oper.uponIn] at h' ⊢
    case value => exact h'
    case skip => exact h'
    case defer => exact h'
    case enter f args => exact ⟨(fun hn => by cases hn), CallsIn.inRound l (callsIn_wide.2 h')⟩
    case row row args =>
      refine ⟨(fun hn => by cases hn), fun c cs _ => ?_⟩
      obtain ⟨v, w'', hR, hs⟩ := h' c cs
      exact ⟨v, w'', hR, stepsIn_wide.2 hs⟩
  | halt x w' => cases x <;> simp only [Oper.upon, Oper.uponIn] at h' ⊢ <;> exact h'
theorem wpAny_inRound {l n : Nat} {P : Program} {md : Region.Mode} {ops : Array Oper} {Q : Exit → Act → World → Prop} (hd : ∀ (i : Nat) (o : Oper) (c : Call), ops[i]? = some o → o.op ≠ .defer c) (hout : ¬ LetsOut Q) :
    ∀ (fuel : Nat) (listed : Array Bool) (a : Act) (w : World), wpAny P md ops Q fuel listed a w → wpAnyIn (Fence.wide.inRound l) n P md ops Q fuel listed a w
  | 0, _, _, _, h => h
  | fuel + 1, listed, a, w, h => ⟨h.1, fun i hi => by
      have h1 := h.2 i hi
      unfold wpOp at h1
      unfold wpOpIn
      cases ho : ops[i]? with
      | none => simp only [ho] at h1 ⊢; exact wpAny_inRound hd hout fuel _ _ _ h1
      | some o =>
        simp only [ho] at h1 ⊢
        split
        · rename_i hw
          simp only [hw, if_true] at h1
          exact Oper.wpIn_mono (fun a' w' h => wpAny_inRound hd hout fuel _ _ _ h) (oper_inRound (fun c => hd i o c ho) hout h1)
        · rename_i hw
          simp only [hw] at h1
          exact ⟨fun _ _ => trivial, wpAny_inRound hd hout fuel _ _ _ h1⟩⟩
def noDefer (l : List Oper) : Bool := l.all fun o => match o.op with | .defer _ => false | _ => true
theorem noDefer_spec {l : List Oper} (h : noDefer l = true) : ∀ (i : Nat) (o : Oper) (c : Call), l.toArray[i]? = some o → o.op ≠ .defer c := by
  intro i o c ho e
  have hm : o ∈ l := by
    exact List.mem_of_getElem? (by simpa using ho)
  have := List.all_eq_true.1 h o hm
  rw [e] at this
  cases this
theorem round_region_any {l n : Nat} {P : Program} {id : Nat} {ops : List Oper} {Q : Exit → Act → World → Prop} {a : Act} {w : World} (hm : P.follows .mixedOrders = true) (hd : noDefer ops = true) (hout : ¬ LetsOut Q)
    (h : wpAny P .any ops.toArray Q ops.length (Array.replicate ops.length false) a { w with drawn := w.drawn + 1 }) : (Code.region id ops.toArray true).wpIn (Fence.wide.inRound l) n P Q a w :=
  wpIn_region_any hm (wpAny_inRound (noDefer_spec hd) hout _ _ _ _ (by simpa using h))
/-- A region that draws and only reads, in a round: one walk in the text's order. -/
theorem round_quiet_lit {lp n : Nat} {P : Program} {id : Nat} {Q : Exit → Act → World → Prop} {a : Act} {w : World} {l : List Oper} (hm : P.follows .mixedOrders = true) (hd : noDefer l = true) (hB : Region.lexB .any l.toArray = true) (hout : ¬ LetsOut Q)
    (h : wpQuiet P l.toArray (fun w' => ∃ n, w' = w.drewN n) (fun a' => ∀ w', (∃ n, w' = w.drewN n) → Q .normal a' w') l a) : (Code.region id l.toArray true).wpIn (Fence.wide.inRound lp) n P Q a w := by
  simp only [Region.lexB, Bool.and_eq_true] at hB
  refine round_region_any hm hd hout (wpAny_of_quiet (C := fun w' => ∃ n, w' = w.drewN n) (Q := fun a' => ∀ w', (∃ n, w' = w.drewN n) → Q .normal a' w') (fun _ w' hw' h => h w' hw') _ _ _ _ ⟨1, rfl⟩ ?_)
  have := wpAnyQ_lex (C := fun w' => ∃ n, w' = w.drewN n) (md := .any) hB.1 l 0 (Array.replicate l.length false) a (by simp) (by simpa using hB.2) h
  simpa using this
/-- A region that draws, reads, and writes with its last operation, in a round. -/
theorem round_still_tail {lp n : Nat} {P : Program} {id : Nat} {Q : Exit → Act → World → Prop} {a : Act} {w : World} {l : List Oper} (m : Nat) (hm : P.follows .mixedOrders = true) (hd : noDefer l = true) (hB : Region.lexTailB .any l.toArray m = true) (hout : ¬ LetsOut Q)
    (h : wpStill P l.toArray w.drew (fun a' => wpList P l.toArray Q (l.drop m) a' w.drew) (l.take m) a) : (Code.region id l.toArray true).wpIn (Fence.wide.inRound lp) n P Q a w := by
  simp only [Region.lexTailB, Bool.and_eq_true, decide_eq_true_eq] at hB
  obtain ⟨⟨⟨⟨hsel, hn⟩, hs⟩, hc⟩, hlex⟩ := hB
  have hn' : m < l.length := by simpa using hn
  have htl : (l.take m).length = m := by simp; omega
  have hdl : (l.drop m).length = l.toArray.size - m := by simp
  have inv0 : HeadInv .any l.toArray m (Array.replicate l.toArray.size false) :=
    ⟨by simp, fun j oj _ hl => (by rw [getD_replicate_false] at hl; cases hl), fun t _ ht => getD_in (by simpa using ht) (getD_replicate_false _ _)⟩
  have H := wpAnyL_lex (md := .any) (g := l.toArray.size - m) hsel hs hc hn (l.take m) 0 _ a (fun j hj => by
    have hj' : j < m := by rw [htl] at hj; exact hj
    simp [hj']) (by simpa using htl) inv0 (by rw [htl]; exact hlex) h
  refine round_region_any hm hd hout ?_
  have := wpAny_of_head (Q' := Q) (g := l.toArray.size - m) (fun listed a' hL => by
    have := wpAny_of_seq (md := .any) (Q' := Q) (l.drop m) m listed a' { w with drawn := w.drawn + 1 } (fun j => by simp [List.getElem?_drop]) (by rw [hdl]; exact hL.1) hL.2
    rwa [hdl] at this) _ _ _ H
  rw [htl, show m + (l.toArray.size - m) = l.length by simp; omega] at this
  simpa using this
theorem letsOut_then {K : Act → World → Prop} {Q : Exit → Act → World → Prop} (h : ¬ LetsOut Q) : ¬ LetsOut (Exit.then K Q) := fun ⟨a, w, hq⟩ => h ⟨a, w, hq⟩
theorem letsOut_block {id : Nat} {Q : Exit → Act → World → Prop} (h : ¬ LetsOut Q) : ¬ LetsOut (Exit.inBlock id Q) := fun ⟨a, w, hq⟩ => h ⟨a, w, hq⟩
theorem letsOut_own {α : Type} {B : Nat} {Kp : World → World → Prop} {I : List α → World → Prop} {Ix : Code → List α → World → Prop} {xs : List α} {W : World} : ¬ LetsOut (ownPostG B Kp I Ix xs W) := fun ⟨_, _, h⟩ => h

end Go.Proofs.YtgblkaoioeceiaaDoor
