/- A region that draws its order of evaluation: reads first; a chain of operations that lay memory, one after the other; what is copied out of the last one's value; a variable's block, laid at whatever point and filled at the end. -/
import Derived.Test.YtfdhiilhjfbehaaDoorH6
namespace Go.Proofs.YtfdhiilhjfbehaaDoor
section
open Go Go.RowKit Go.Sort

/-- The chain, from a frame whose slot d holds x: behind each operation the slot may hold another value, and the world may have grown. -/
def chainP (P : Program) (ops : Array Oper) (Q : Exit → Act → World → Prop) (d : Nat) (fin : Value → Act → World → Prop) : List Oper → Value → Act → World → Prop
  | [], x, a, W => fin x a W
  | o :: os, x, a, W => ∀ K : Act → World → Prop,
      (∀ a' W', a'.tmps.getD d undef = x → d < a'.tmps.size → Below W.heap.size W W' → (∀ y W'', Below W'.heap.size W' W'' → chainP P ops Q d fin os y (a'.put (some d) y) W'') → K a' W') →
      if Region.wanted o (yielded ops a.tmps) = true then Oper.wp P o a W K Q else K (a.put o.dst undef) W
/-- The end: the copies, then the variable is filled. -/
def finP (P : Program) (l : List Oper) (Q : Exit → Act → World → Prop) (w0 : World) (d : Nat) (T : TypeId) (Z : Array Value) (y : Operand) (is1 : List Nat) (x : Value) (a : Act) (W : World) : Prop :=
  wpQuiet P l.toArray (Ext w0) (fun a3 => a3.tmps.getD d undef = x ∧ d < a3.tmps.size ∧ ∀ B W3, w0.heap.size ≤ B → Below W.heap.size W W3 → Blk W3 B T Z →
    ∃ cells : Array Value, (a3.put (some d) (.pointer (some ⟨B, 0, none⟩))).eval y = .agg cells ∧ cells.size = Z.size ∧ cells.all (·.oneCell') = true ∧ Q .normal (a3.put (some d) (.pointer (some ⟨B, 0, none⟩))) (W3.setRow B cells)) (pickOps l is1) a

/-- The orders, the block being laid already. -/
def doneB (h : Array Oper) (s : Nat) (is1 : List Nat) : List Nat → Array Bool → Bool
  | [], L => orderB .any h is1 L && (Region.ready .any h (setAll L is1) == [s]) && (Region.ready .any h ((setAll L is1).setIfInBounds s true) == [])
  | c :: cs, L => (Region.ready .any h L == [c]) && doneB h s is1 cs (L.setIfInBounds c true)
/-- The orders, the block not being laid. -/
def floatB (h : Array Oper) (f s : Nat) (is1 : List Nat) : List Nat → Array Bool → Bool
  | [], L => orderB .any h is1 L && (Region.ready .any h (setAll L is1) == [f]) && (Region.ready .any h ((setAll L is1).setIfInBounds f true) == [s]) && (Region.ready .any h (((setAll L is1).setIfInBounds f true).setIfInBounds s true) == [])
  | c :: cs, L => (Region.ready .any h L == (if f < c then [f, c] else [c, f])) && doneB h s is1 (c :: cs) (L.setIfInBounds f true) && floatB h f s is1 cs (L.setIfInBounds c true)

theorem put_own (a : Act) (d : Nat) : a.put (some d) (a.tmps.getD d undef) = a := by
  unfold Act.put
  simp only
  have : a.tmps.setIfInBounds d (a.tmps.getD d undef) = a.tmps := by
    apply Array.ext (by simp)
    intro i h1 h2
    rw [Array.getElem_setIfInBounds]
    split
    · rename_i e; subst e; simp [h2]
    · rfl
  rw [this]
theorem put_same {a : Act} {d : Nat} {x : Value} (h : a.tmps.getD d undef = x) : a.put (some d) x = a := by rw [← h]; exact put_own a d

section
variable {P : Program} {Q : Exit → Act → World → Prop} {l : List Oper} {w0 : World} {d f s : Nat} {T : TypeId} {Z : Array Value} {z : Value} {i : TypeInfo} {of os : Oper} {y : Operand} {is1 : List Nat}

/-- The block is laid. -/
theorem chain_done (hs0 : Region.noSelect l.toArray = true) (hQ : ∀ c a d v w, Q (.panic c) (Act.put a d v) w → Q (.panic c) a w) (hp : (pickOps l is1).all plainOp = true)
    (hos : l[s]? = some os) (hsg : os.guard = none) (hsd : os.dst = none) (hso : os.op = .store T (.tmp d) y) (hd : ∀ cells : Array Value, cells.size = Z.size → (P.info? T).map (·.size) = some cells.size) :
    ∀ (cs : List Nat) (L : Array Bool) (a : Act) (W : World) (B : Nat), doneB l.toArray s is1 cs L = true → (pickOps l cs).length = cs.length → Ext w0 W → w0.heap.size ≤ B → Blk W B T Z → d < a.tmps.size → 
      chainP P l.toArray Q d (finP P l Q w0 d T Z y is1) (pickOps l cs) (.pointer (some ⟨B, 0, none⟩)) a W → wpAnyH P .any l.toArray Q (Ext w0) (cs.length + (is1.length + 1)) L a W
  | [], L, a, W, B, hB, _, hE, hb, hblk, hda, h => by
    simp only [doneB, Bool.and_eq_true, beq_iff_eq] at hB
    obtain ⟨⟨hB1, hB2⟩, hB3⟩ := hB
    simp only [List.length_nil, Nat.zero_add]
    refine wpAnyH_reads hs0 hQ is1 L a W hE hB1 hp ?_
    refine wpQuiet_mono' ?_ _ _ h
    rintro a3 ⟨hx, hda3, h3⟩
    obtain ⟨cells, he, hz, h1, hq⟩ := h3 B W hb (Below.refl _ _) hblk
    rw [put_same hx] at he hq
    refine wpAnyH_one hB2 hos ?_
    intro K hK
    refine step_store_row hsg T (.tmp d) y hso B cells ?_ he T Z hblk (hd _ hz) hz.symm h1 ?_
    · unfold Act.eval; simpa using hx
    · rw [hsd]
      refine hK _ _ ?_ (wpAnyH_done hB3 hq 0)
      exact ext_of (Below.setRow (ext_below hE) hb _)
  | c :: cs, L, a, W, B, hB, hl, hE, hb, hblk, hda, h => by
    simp only [doneB, Bool.and_eq_true, beq_iff_eq] at hB
    obtain ⟨hr, hB'⟩ := hB
    obtain ⟨o, ho⟩ : ∃ o, l[c]? = some o := by
      have : c ∈ Region.ready .any l.toArray L := by rw [hr]; simp
      obtain ⟨_, o, ho, _⟩ := mem_ready.1 this
      exact ⟨o, by simpa using ho⟩
    have hpk : pickOps l (c :: cs) = o :: pickOps l cs := by rw [pickOps, ho]
    rw [hpk] at h hl
    rw [show (c :: cs).length + (is1.length + 1) = (cs.length + (is1.length + 1)) + 1 from by simp; omega]
    refine wpAnyH_one hr ho ?_
    intro K hK
    refine h K fun a' W' hx' hda' hb' hn => hK _ _ (ext_trans hE (ext_of hb')) ?_
    have := hn (.pointer (some ⟨B, 0, none⟩)) W' (Below.refl _ _)
    rw [put_same hx'] at this
    exact chain_done hs0 hQ hp hos hsg hsd hso hd cs _ a' W' B hB' (by simpa using hl) (ext_trans hE (ext_of hb')) hb (hblk.below hb' hblk.lt) hda' this
/-- **The block is not laid.** -/
theorem chain_float (hs0 : Region.noSelect l.toArray = true) (hQ : ∀ c a d v w, Q (.panic c) (Act.put a d v) w → Q (.panic c) a w) (hp : (pickOps l is1).all plainOp = true)
    (hos : l[s]? = some os) (hsg : os.guard = none) (hsd : os.dst = none) (hso : os.op = .store T (.tmp d) y) (hd : ∀ cells : Array Value, cells.size = Z.size → (P.info? T).map (·.size) = some cells.size)
    (hof : l[f]? = some of) (hfg : of.guard = none) (hfd : of.dst = some d) (hfo : of.op = .alloc T) (hi : P.info? T = some i) (hz : i.zero = some z) (hc : z.cells = Z) :
    ∀ (cs : List Nat) (L : Array Bool) (a : Act) (W : World), floatB l.toArray f s is1 cs L = true → (pickOps l cs).length = cs.length → Ext w0 W → d < a.tmps.size →
      (∀ y' W', Below W.heap.size W W' → chainP P l.toArray Q d (finP P l Q w0 d T Z y is1) (pickOps l cs) y' (a.put (some d) y') W') → wpAnyH P .any l.toArray Q (Ext w0) (cs.length + (is1.length + 2)) L a W
  | [], L, a, W, hB, _, hE, hda, h => by
    simp only [floatB, Bool.and_eq_true, beq_iff_eq] at hB
    obtain ⟨⟨⟨hB1, hB2⟩, hB3⟩, hB4⟩ := hB
    simp only [List.length_nil, Nat.zero_add]
    refine wpAnyH_reads hs0 hQ is1 L a W hE hB1 hp ?_
    have h0 := h (a.tmps.getD d undef) W (Below.refl _ _)
    rw [put_own] at h0
    refine wpQuiet_mono' ?_ _ _ h0
    rintro a3 ⟨hx, hda3, h3⟩
    have hb1 : Below W.heap.size W (W.alloc (.cells Z T)) := (Below.refl _ _).alloc (Nat.le_refl _) _
    obtain ⟨cells, he, hz', h1, hq⟩ := h3 W.heap.size (W.alloc (.cells Z T)) (ext_below hE).size hb1 (Blk.new _ _ _)
    refine wpAnyH_one hB2 hof ?_
    intro K hK
    refine step_alloc0 hfg T hfo Z z i hi hz hc ?_
    rw [hfd]
    refine hK _ _ (ext_trans hE (ext_of hb1)) ?_
    refine wpAnyH_one hB3 hos ?_
    intro K2 hK2
    refine step_store_row hsg T (.tmp d) y hso W.heap.size cells ?_ he T Z (Blk.new _ _ _) (hd _ hz') hz'.symm h1 ?_
    · unfold Act.eval Act.put
      simp [hda3]
    · rw [hsd]
      refine hK2 _ _ ?_ (wpAnyH_done hB4 hq 0)
      exact ext_of (Below.setRow (ext_below (ext_trans hE (ext_of hb1))) (ext_below hE).size _)
  | c :: cs, L, a, W, hB, hl, hE, hda, h => by
    simp only [floatB, Bool.and_eq_true, beq_iff_eq] at hB
    obtain ⟨⟨hr, hD⟩, hF⟩ := hB
    obtain ⟨o, ho⟩ : ∃ o, l[c]? = some o := by
      have : c ∈ Region.ready .any l.toArray L := by rw [hr]; split <;> simp
      obtain ⟨_, o, ho, _⟩ := mem_ready.1 this
      exact ⟨o, by simpa using ho⟩
    have hpk : pickOps l (c :: cs) = o :: pickOps l cs := by rw [pickOps, ho]
    rw [show (c :: cs).length + (is1.length + 2) = (cs.length + (is1.length + 2)) + 1 from by simp; omega]
    refine wpAnyH_all hr (by split <;> simp) fun j hj => ?_
    have hj' : j = f ∨ j = c := by
      split at hj
      · simpa using hj
      · have : j = c ∨ j = f := by simpa using hj
        exact this.symm
    rcases hj' with rfl | rfl
    · refine wpOp_step (by simpa using hof) fun K hK => ?_
      have hb1 : Below W.heap.size W (W.alloc (.cells Z T)) := (Below.refl _ _).alloc (Nat.le_refl _) _
      refine step_alloc0 hfg T hfo Z z i hi hz hc ?_
      rw [hfd]
      refine hK _ _ ⟨ext_trans hE (ext_of hb1), ?_⟩
      rw [show cs.length + (is1.length + 2) = (c :: cs).length + (is1.length + 1) from by simp; omega]
      exact chain_done hs0 hQ hp hos hsg hsd hso hd (c :: cs) _ _ _ W.heap.size hD hl (ext_trans hE (ext_of hb1)) (ext_below hE).size (Blk.new _ _ _) (by unfold Act.put; simpa using hda) (h _ _ hb1)
    · rw [hpk] at h hl
      have h0 := h (a.tmps.getD d undef) W (Below.refl _ _)
      rw [put_own] at h0
      refine wpOp_step (by simpa using ho) fun K hK => ?_
      refine h0 K fun a' W' hx' hda' hb' hn => hK _ _ ⟨ext_trans hE (ext_of hb'), ?_⟩
      exact chain_float hs0 hQ hp hos hsg hsd hso hd hof hfg hfd hfo hi hz hc cs _ a' W' hF (by simpa using hl) (ext_trans hE (ext_of hb')) hda' hn
end
end
end Go.Proofs.YtfdhiilhjfbehaaDoor
