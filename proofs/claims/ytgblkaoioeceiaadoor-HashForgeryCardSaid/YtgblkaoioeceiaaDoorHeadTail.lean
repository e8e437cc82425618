/- A region that draws its order of evaluation: a head in whatever order (reads, calls, new memory), and a tail, in one forced order, that waits for the whole head. -/
import Derived.Test.YtgblkaoioeceiaaDoorQuietTail
import Derived.Test.YtgblkaoioeceiaaDoorMix
import Derived.Test.YtgblkaoioeceiaaDoorMix2
import Derived.Test.YtgblkaoioeceiaaDoorSeq
import Derived.Deep.MidRow
namespace Go.Proofs.YtgblkaoioeceiaaDoor
open Go Go.RowKit Go.Sort

section
variable {P : Program} {md : Region.Mode}

theorem wp_then {o : Oper} {a : Act} {w : World} {K K2 : Act → World → Prop} {Q : Exit → Act → World → Prop} (h : o.wp P a w K (Exit.then K2 Q)) : o.wp P a w K Q := by
  unfold Oper.wp at *
  generalize (execOp a.eval o).run P w = r at *
  cases r with
  | ok n w' => cases n <;> exact h
  | halt x w' => cases x <;> exact h

theorem wpAny_of_head_any {h t : List Oper} {Q : Exit → Act → World → Prop} (hb : backB md h = true) (hs : Region.sinkB md (h ++ t).toArray h.length = true) (hc : Region.chainB md (h ++ t).toArray h.length = true) (ht : 0 < t.length)
    (hseq : Region.seqB md (h ++ t).toArray t.length h.length (headDone h.length t.length) = true) :
    ∀ (f : Nat) (listed : Array Bool) (a : Act) (w : World), HeadInv md (h ++ t).toArray h.length listed → wpAny P md h.toArray (Exit.then (wpList P (h ++ t).toArray Q t) Q) f listed a w → wpAny P md (h ++ t).toArray Q (t.length + f) listed a w := by
  have fin : ∀ (f : Nat) (listed : Array Bool) (a : Act) (w : World), HeadInv md (h ++ t).toArray h.length listed → Region.ready md h.toArray listed = [] → wpList P (h ++ t).toArray Q t a w → wpAny P md (h ++ t).toArray Q (t.length + f) listed a w := by
    intro f listed a w inv hr hq
    rw [head_done hb inv hr]
    exact wpAny_tail f t h.length _ a w (fun j => by simp [List.getElem?_append_right]) hseq hq
  intro f
  induction f with
  | zero => intro listed a w inv hh; exact fin 0 listed a w inv hh.1 hh.2
  | succ f ih =>
    intro listed a w inv hh
    by_cases hr : Region.ready md h.toArray listed = []
    · exact fin (f + 1) listed a w inv hr (hh.1 hr)
    · obtain ⟨i0, hi0⟩ := List.exists_mem_of_ne_nil _ hr
      have hi0' := hi0
      obtain ⟨hun0, o0, ho0, _⟩ := mem_ready.1 hi0
      have hlt0 : i0 < h.length := by have := (Array.getElem?_eq_some_iff.1 ho0).1; simpa using this
      have hw0 := tail_waits hs hc (by simp; exact ht) inv _ i0 rfl hlt0 hun0
      refine ⟨fun e => absurd e (by
        have := (ready_head (t := t) hlt0).2 hi0'
        intro e
        rw [e] at this
        cases this), fun i hi => ?_⟩
      have hin : i < h.length := by
        rcases Nat.lt_or_ge i h.length with h1 | h1
        · exact h1
        · exact absurd hi (hw0 i h1)
      have hi' := (ready_head (t := t) hin).1 hi
      obtain ⟨_, o, ho, _⟩ := mem_ready.1 hi'
      have ho' : h[i]? = some o := by simpa using ho
      have hq := hh.2 i hi'
      unfold wpOp at hq ⊢
      rw [show (h ++ t).toArray[i]? = some o from by simp [List.getElem?_append_left hin, ho']]
      simp only [ho] at hq
      simp only
      rw [wanted_head hb ho']
      split at hq
      · rename_i hw
        rw [if_pos hw]
        rcases hq with hq | ⟨hq, hq'⟩
        · exact .inl (Oper.wp_mono (fun a' w' h' => ih _ a' w' (inv.set hi hin) h') (wp_then hq))
        · exact .inr ⟨hq, hq'⟩
      · rename_i hw
        rw [if_neg hw]
        exact ih _ _ _ (inv.set hi hin) hq

/-- The head's walk, then the tail's list. -/
theorem wpAny_head_tail {Q : Exit → Act → World → Prop} {a : Act} {w : World} {l : List Oper} (n : Nat) (hl : l.take n ++ l.drop n = l) (hn : (l.take n).length = n)
    (hb : backB md (l.take n) = true) (hs : Region.sinkB md l.toArray n = true) (hc : Region.chainB md l.toArray n = true) (ht : 0 < (l.drop n).length)
    (hseq : Region.seqB md l.toArray (l.drop n).length n (headDone n (l.drop n).length) = true)
    (h : wpAny P md (l.take n).toArray (Exit.then (wpList P l.toArray Q (l.drop n)) Q) (l.take n).length (Array.replicate l.length false) a w) : wpAny P md l.toArray Q l.toArray.size (Array.replicate l.length false) a w := by
  have key := wpAny_of_head_any (P := P) (md := md) (h := l.take n) (t := l.drop n) (Q := Q) hb
    (by rw [hl, hn]; exact hs) (by rw [hl, hn]; exact hc) ht (by rw [hl, hn]; exact hseq) (l.take n).length (Array.replicate l.length false) a w
    (by
      rw [hl]
      refine ⟨by simp, fun j oj _ hl => (by rw [getD_replicate_false] at hl; cases hl), fun t _ ht => getD_in (by simpa using ht) (getD_replicate_false _ _)⟩) (by rw [hl]; exact h)
  rw [hl] at key
  have e : (l.drop n).length + (l.take n).length = l.toArray.size := by rw [List.length_drop, hn]; simp; have := List.length_take_le n l; rw [hn] at this; have := List.length_take (i := n) (l := l); omega
  rw [e] at key
  exact key

/-- Reads first in the head, under what grows; then what is left of the head; then the tail. -/
theorem wpAny_reads_tail {Q : Exit → Act → World → Prop} {a : Act} {w w0 : World} {l : List Oper} (n : Nat) (is1 : List Nat) (fuel : Nat) (hl : l.take n ++ l.drop n = l) (hn : (l.take n).length = n)
    (hb : backB md (l.take n) = true) (hs : Region.sinkB md l.toArray n = true) (hc : Region.chainB md l.toArray n = true) (ht : 0 < (l.drop n).length)
    (hseq : Region.seqB md l.toArray (l.drop n).length n (headDone n (l.drop n).length) = true)
    (hsel : Region.noSelect (l.take n).toArray = true) (hQ : ∀ c a d v w, Q (.panic c) (Act.put a d v) w → Q (.panic c) a w)
    (hB1 : orderB md (l.take n).toArray is1 (Array.replicate l.length false) = true) (hp : (pickOps (l.take n) is1).all plainOp = true) (hlen : is1.length + fuel = n) (hw : Ext w0 w)
    (h : wpQuiet P (l.take n).toArray (Ext w0) (fun a1 => wpAnyH P md (l.take n).toArray (Exit.then (wpList P l.toArray Q (l.drop n)) Q) (Ext w0) fuel (setAll (Array.replicate l.length false) is1) a1 w) (pickOps (l.take n) is1) a) :
    wpAny P md l.toArray Q l.toArray.size (Array.replicate l.length false) a w := by
  refine wpAny_head_tail n hl hn hb hs hc ht hseq ?_
  have key := wpAnyH_reads (P := P) (md := md) (S := Ext w0) (Q := Exit.then (wpList P l.toArray Q (l.drop n)) Q) (fuel := fuel) hsel (fun c a d v w h => hQ c a d v w h) is1 (Array.replicate l.length false) a w hw hB1 hp h
  rw [hlen] at key
  rw [hn]
  exact wpAny_of_held _ _ _ _ key
theorem wp_region_reads_tail {id : Nat} {Q : Exit → Act → World → Prop} {a : Act} {w : World} {l : List Oper} (n : Nat) (is1 : List Nat) (fuel : Nat) (hm : P.follows .mixedOrders = true) (hl : l.take n ++ l.drop n = l) (hn : (l.take n).length = n)
    (hb : backB .any (l.take n) = true) (hs : Region.sinkB .any l.toArray n = true) (hc : Region.chainB .any l.toArray n = true) (ht : 0 < (l.drop n).length)
    (hseq : Region.seqB .any l.toArray (l.drop n).length n (headDone n (l.drop n).length) = true)
    (hsel : Region.noSelect (l.take n).toArray = true) (hQ : ∀ c a d v w, Q (.panic c) (Act.put a d v) w → Q (.panic c) a w)
    (hB1 : orderB .any (l.take n).toArray is1 (Array.replicate l.length false) = true) (hp : (pickOps (l.take n) is1).all plainOp = true) (hlen : is1.length + fuel = n)
    (h : wpQuiet P (l.take n).toArray (Ext w) (fun a1 => wpAnyH P .any (l.take n).toArray (Exit.then (wpList P l.toArray Q (l.drop n)) Q) (Ext w) fuel (setAll (Array.replicate l.length false) is1) a1 w.drew) (pickOps (l.take n) is1) a) :
    (Code.region id l.toArray true).wp P Q a w := by
  refine wp_region_any hm ?_
  have := wpAny_reads_tail n is1 fuel hl hn hb hs hc ht hseq hsel hQ hB1 hp hlen (ext_drew (ext_refl w)) h
  simpa using this
/-- .. in a round. -/
theorem round_region_reads_tail {lp m id : Nat} {Q : Exit → Act → World → Prop} {a : Act} {w : World} {l : List Oper} (n : Nat) (is1 : List Nat) (fuel : Nat) (hm : P.follows .mixedOrders = true) (hd : noDefer l = true) (hout : ¬ LetsOut Q) (hl : l.take n ++ l.drop n = l) (hn : (l.take n).length = n)
    (hb : backB .any (l.take n) = true) (hs : Region.sinkB .any l.toArray n = true) (hc : Region.chainB .any l.toArray n = true) (ht : 0 < (l.drop n).length)
    (hseq : Region.seqB .any l.toArray (l.drop n).length n (headDone n (l.drop n).length) = true)
    (hsel : Region.noSelect (l.take n).toArray = true) (hQ : ∀ c a d v w, Q (.panic c) (Act.put a d v) w → Q (.panic c) a w)
    (hB1 : orderB .any (l.take n).toArray is1 (Array.replicate l.length false) = true) (hp : (pickOps (l.take n) is1).all plainOp = true) (hlen : is1.length + fuel = n)
    (h : wpQuiet P (l.take n).toArray (Ext w) (fun a1 => wpAnyH P .any (l.take n).toArray (Exit.then (wpList P l.toArray Q (l.drop n)) Q) (Ext w) fuel (setAll (Array.replicate l.length false) is1) a1 w.drew) (pickOps (l.take n) is1) a) :
    (Code.region id l.toArray true).wpIn (Fence.wide.inRound lp) m P Q a w := by
  refine round_region_any hm hd hout ?_
  have := wpAny_reads_tail n is1 fuel hl hn hb hs hc ht hseq hsel hQ hB1 hp hlen (ext_drew (ext_refl w)) h
  simpa using this
/-- A read of an array that is known as a list. -/
theorem wpQuiet_load_mid {ops : Array Oper} {rest : List Oper} {op : Oper} {a : Act} {C : World → Prop} {Q1 : Act → Prop} (hgd : op.guard = none) (ty : TypeId) (x : Operand) (ho : op.op = .load ty x)
    (b o : Nat) (hx : a.eval x = .pointer (some ⟨b, o, none⟩)) (cs : List Value) (d : TypeDesc) (hS : ∀ w, C w → w.rangeAt b o cs)
    (hu : P.underlying ty = some d) (hd : d.isRow = true) (hi : (P.info? ty).map (·.size) = some cs.length)
    (h : wpQuiet P ops C Q1 rest (a.put op.dst (.agg cs.toArray))) : wpQuiet P ops C Q1 (op :: rest) a := by
  have hw : Region.wanted op (yielded ops a.tmps) = true := by simp [Region.wanted, hgd]
  unfold wpQuiet
  rw [if_pos hw]
  refine ⟨_, fun w hC => ?_, h⟩
  unfold Oper.quietAt execOp
  simp only [ho, hx, Instr.loadAt, Instr.sureAddr, Sem.run_bind, Sem.run_pure, Result.andThen_ok, run_loadVar_mid w b o ty cs d (hS w hC) hu hd hi]
  exact ⟨rfl, rfl⟩
end
end Go.Proofs.YtgblkaoioeceiaaDoor
