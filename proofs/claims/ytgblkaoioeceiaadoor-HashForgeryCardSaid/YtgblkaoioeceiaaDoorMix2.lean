/- A region that draws its order of evaluation and holds TWO calls that lay memory, one after the other. -/
import Derived.Test.YtgblkaoioeceiaaDoorMix
namespace Go.Proofs.YtgblkaoioeceiaaDoor
open Go Go.RowKit Go.Sort

/-- The reads, two calls that lay memory, and the rest. -/
theorem wp_region_mix2 {P : Program} {id : Nat} {Q : Exit → Act → World → Prop} {a : Act} {w : World} {l : List Oper} (is1 : List Nat) (i j : Nat) (is2 : List Nat) (o o2 : Oper) (ho : l[i]? = some o) (ho2 : l[j]? = some o2) (hm : P.follows .mixedOrders = true)
    (hs : Region.noSelect l.toArray = true) (hQ : ∀ c a d v w, Q (.panic c) (Act.put a d v) w → Q (.panic c) a w)
    (hB1 : orderB .any l.toArray is1 (Array.replicate l.length false) = true) (hp : (pickOps l is1).all plainOp = true)
    (hr : Region.ready .any l.toArray (setAll (Array.replicate l.length false) is1) = [i])
    (hr2 : Region.ready .any l.toArray ((setAll (Array.replicate l.length false) is1).setIfInBounds i true) = [j])
    (hB2 : orderB .any l.toArray is2 (((setAll (Array.replicate l.length false) is1).setIfInBounds i true).setIfInBounds j true) = true)
    (he : Region.ready .any l.toArray (setAll (((setAll (Array.replicate l.length false) is1).setIfInBounds i true).setIfInBounds j true) is2) = [])
    (hlen : is1.length + ((is2.length + 1) + 1) = l.length)
    (h : wpQuiet P l.toArray (Ext w) (fun a1 => ∀ K : Act → World → Prop,
        (∀ a' w', Ext w w' → (∀ K2 : Act → World → Prop, (∀ a'' w'', Ext w' w'' → wpQuiet P l.toArray (Ext w'') (fun a3 => ∀ w3, Ext w'' w3 → Q .normal a3 w3) (pickOps l is2) a'' → K2 a'' w'') →
          if Region.wanted o2 (yielded l.toArray a'.tmps) = true then Oper.wp P o2 a' w' K2 Q else K2 (a'.put o2.dst undef) w') → K a' w') →
        if Region.wanted o (yielded l.toArray a1.tmps) = true then Oper.wp P o a1 w.drew K Q else K (a1.put o.dst undef) w.drew) (pickOps l is1) a) :
    (Code.region id l.toArray true).wp P Q a w := by
  refine wp_region_held (S := Ext w) hm ?_
  have key : wpAnyH P .any l.toArray Q (Ext w) (is1.length + ((is2.length + 1) + 1)) (Array.replicate l.length false) a w.drew := by
    refine wpAnyH_reads hs hQ is1 _ a w.drew (ext_drew (ext_refl w)) hB1 hp ?_
    refine wpQuiet_mono' ?_ (pickOps l is1) a h
    intro a1 h1
    refine wpAnyH_one hr ho fun K hK => h1 K fun a' w' hw' hq => hK a' w' hw' ?_
    refine wpAnyH_one hr2 ho2 fun K2 hK2 => hq K2 fun a'' w'' hw'' hq2 => hK2 a'' w'' (ext_trans hw' hw'') ?_
    exact wpAnyH_rest hs hB2 he (fun w3 h3 => ext_trans (ext_trans hw' hw'') h3) (ext_refl w'') hq2
  rw [hlen] at key
  simpa using key

section
variable {P : Program} {Q : Exit → Act → World → Prop} {md : Region.Mode} {S : World → Prop}
/-- The frame behind a name. -/
theorem wpAnyH_abs {ops : Array Oper} {fuel : Nat} {listed : Array Bool} {a : Act} {w : World} (h : ∀ A : Act, A = a → wpAnyH P md ops Q S fuel listed A w) : wpAnyH P md ops Q S fuel listed a w := h a rfl
/-- Two operations that may come up. -/
theorem wpAnyH_two {l : List Oper} {i j : Nat} {o o2 : Oper} {fuel : Nat} {listed : Array Bool} {a : Act} {w : World} (hr : Region.ready md l.toArray listed = [i, j]) (ho : l[i]? = some o) (ho2 : l[j]? = some o2)
    (h : ∀ K : Act → World → Prop, (∀ a' w', S w' → wpAnyH P md l.toArray Q S fuel (listed.setIfInBounds i true) a' w' → K a' w') →
      if Region.wanted o (yielded l.toArray a.tmps) = true then Oper.wp P o a w K Q else K (a.put o.dst undef) w)
    (h2 : ∀ K : Act → World → Prop, (∀ a' w', S w' → wpAnyH P md l.toArray Q S fuel (listed.setIfInBounds j true) a' w' → K a' w') →
      if Region.wanted o2 (yielded l.toArray a.tmps) = true then Oper.wp P o2 a w K Q else K (a.put o2.dst undef) w) : wpAnyH P md l.toArray Q S (fuel + 1) listed a w := by
  refine wpAnyH_all hr (by simp) fun k hk => ?_
  rcases List.mem_cons.1 hk with rfl | hk
  · exact wpOp_step (by simpa using ho) fun K' hK => h K' fun a' w' hS' hH => hK _ _ ⟨hS', hH⟩
  · obtain rfl : k = j := by simpa using hk
    exact wpOp_step (by simpa using ho2) fun K' hK => h2 K' fun a' w' hS' hH => hK _ _ ⟨hS', hH⟩
/-- '[]T{}'. -/
theorem step_empty {ops : Array Oper} {o : Oper} {a : Act} {w : World} {K : Act → World → Prop} {E : Prop} (hg : o.guard = none) (t e : TypeId) (hop : o.op = Op.buildSlice t 0 #[])
    (hrun : (Instr.buildSlice t 0 #[]).run P w = .ok (.slice (some ⟨w.heap.size, 0, none⟩) 0 0) (w.alloc (.cells #[] e)))
    (hK : K (a.put o.dst (.slice (some ⟨w.heap.size, 0, none⟩) 0 0)) (w.alloc (.cells #[] e))) :
    if Region.wanted o (yielded ops a.tmps) = true then Oper.wp P o a w K Q else E := by
  have hw : Region.wanted o (yielded ops a.tmps) = true := by simp [Region.wanted, hg]
  rw [if_pos hw]
  unfold Oper.wp execOp
  simp only [hop, Sem.run_bind, Sem.run_pure, Result.andThen_ok, List.map_toArray, List.map_nil, hrun]
  exact hK
/-- The reads of a region first. -/
theorem wp_region_reads {id : Nat} {a : Act} {w : World} {l : List Oper} (is1 : List Nat) (fuel : Nat) (hm : P.follows .mixedOrders = true)
    (hs : Region.noSelect l.toArray = true) (hQ : ∀ c a d v w, Q (.panic c) (Act.put a d v) w → Q (.panic c) a w)
    (hB1 : orderB .any l.toArray is1 (Array.replicate l.length false) = true) (hp : (pickOps l is1).all plainOp = true) (hlen : is1.length + fuel = l.length)
    (h : wpQuiet P l.toArray (Ext w) (fun a1 => wpAnyH P .any l.toArray Q (Ext w) fuel (setAll (Array.replicate l.length false) is1) a1 w.drew) (pickOps l is1) a) :
    (Code.region id l.toArray true).wp P Q a w := by
  refine wp_region_held (S := Ext w) hm ?_
  have key := wpAnyH_reads hs hQ is1 (Array.replicate l.length false) a w.drew (ext_drew (ext_refl w)) hB1 hp h
  rw [hlen] at key
  simpa using key
end
end Go.Proofs.YtgblkaoioeceiaaDoor
