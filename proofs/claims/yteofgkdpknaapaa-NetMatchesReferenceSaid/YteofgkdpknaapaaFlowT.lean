/- A region that draws its order: reads, two variables laid in either order, and their stores. -/
import Derived.Test.YteofgkdpknaapaaFlow
import Derived.Test.YteofgkdpknaapaaG1
namespace Go.Proofs.Yteofgkdpknaapaa
open Go Go.RowKit Go.Sort
section
variable {P : Program} {Q : Exit → Act → World → Prop} {l : List Oper} {w0 : World}
theorem eval_put_self {a : Act} {d : Nat} {v : Value} (h : d < a.tmps.size) : (a.put (some d) v).eval (.tmp d) = v := by
  unfold Act.eval Act.put
  simp only [Array.getD_eq_getD_getElem?, Array.getElem?_setIfInBounds_self]
  rw [if_pos h]; rfl
theorem eval_put_other {a : Act} {d t : Nat} {v : Value} (h : t ≠ d) : (a.put (some d) v).eval (.tmp t) = a.eval (.tmp t) := by
  unfold Act.eval Act.put
  simp only [Array.getD_eq_getD_getElem?]
  rw [Array.getElem?_setIfInBounds_ne (fun e => h e.symm)]
theorem put_comm {a : Act} {d e : Nat} {u v : Value} (h : d ≠ e) : (a.put (some d) u).put (some e) v = (a.put (some e) v).put (some d) u := by
  unfold Act.put
  simp only
  rw [Array.setIfInBounds_comm u v h]
theorem two_vars {L : Array Bool} {a : Act} {W : World} (hE : Ext w0 W) (i j k m : Nat) (oi oj ok om : Oper) (hoi : l[i]? = some oi) (hoj : l[j]? = some oj) (hok : l[k]? = some ok) (hom : l[m]? = some om)
    (hr0 : Region.ready .any l.toArray L = [i, j]) (hr1 : Region.ready .any l.toArray (L.setIfInBounds i true) = [j]) (hr2 : Region.ready .any l.toArray (L.setIfInBounds j true) = [i])
    (hr3 : Region.ready .any l.toArray ((L.setIfInBounds i true).setIfInBounds j true) = [k]) (hr4 : Region.ready .any l.toArray (((L.setIfInBounds i true).setIfInBounds j true).setIfInBounds k true) = [m])
    (hr5 : Region.ready .any l.toArray ((((L.setIfInBounds i true).setIfInBounds j true).setIfInBounds k true).setIfInBounds m true) = [])
    (hij : i ≠ j) (di dj y1 y2 : Nat) (hd : di ≠ dj) (hdi : di < a.tmps.size) (hdj : dj < a.tmps.size) (hy1 : y1 ≠ di ∧ y1 ≠ dj) (hy2 : y2 ≠ di ∧ y2 ≠ dj)
    (hsi : oi.dst = some di) (hsj : oj.dst = some dj) (hsk : ok.dst = none) (hsm : om.dst = none) (hgi : oi.guard = none) (hgj : oj.guard = none) (hgk : ok.guard = none) (hgm : om.guard = none)
    (T U : TypeId) (hpi : oi.op = .alloc T) (hpj : oj.op = .alloc U) (hpk : ok.op = .store T (.tmp di) (.tmp y1)) (hpm : om.op = .store U (.tmp dj) (.tmp y2))
    (Z ZU : Array Value) (z zu : Value) (ti tu : TypeInfo) (hti : P.info? T = some ti) (htu : P.info? U = some tu) (hz : ti.zero = some z) (hzu : tu.zero = some zu) (hzc : z.cells = Z) (hzuc : zu.cells = ZU)
    (C1 C2 : Array Value) (e1 : a.eval (.tmp y1) = .agg C1) (e2 : a.eval (.tmp y2) = .agg C2) (hc1 : (P.info? T).map (·.size) = some C1.size) (hc2 : (P.info? U).map (·.size) = some C2.size) (hl1 : Z.size = C1.size) (hl2 : ZU.size = C2.size) (ho1 : C1.all (·.oneCell') = true) (ho2 : C2.all (·.oneCell') = true)
    (h : ∀ (B B' : Nat) (W' : World), B ≠ B' → W.heap.size ≤ B → W.heap.size ≤ B' → Below W.heap.size W W' → Blk W' B T C1 → Blk W' B' U C2 → Q .normal ((a.put (some di) (.pointer (some ⟨B, 0, none⟩))).put (some dj) (.pointer (some ⟨B', 0, none⟩))) W') :
    wpAnyH P .any l.toArray Q (Ext w0) 4 L a W := by
  have fin : ∀ (B B' : Nat) (W1 : World), B ≠ B' → W.heap.size ≤ B → W.heap.size ≤ B' → Below W.heap.size W W1 → Blk W1 B T Z → Blk W1 B' U ZU → wpAnyH P .any l.toArray Q (Ext w0) 2 ((L.setIfInBounds i true).setIfInBounds j true) ((a.put (some di) (.pointer (some ⟨B, 0, none⟩))).put (some dj) (.pointer (some ⟨B', 0, none⟩))) W1 := by
    intro B B' W1 hne hB hB' hb g1 g2
    have k1 := (KeptIn.refl (fun k => k ≠ B) W1).setRow (g := B) (fun h => h rfl) C1
    have b1 := Below.setRow hb hB C1
    have q1 : Blk (W1.setRow B C1) B T C1 := setRow_heap _ _ _ _ _ _ g1
    have q2 := g2.keptIn k1 (fun e => hne e.symm)
    have k2 := (KeptIn.refl (fun k => k ≠ B') (W1.setRow B C1)).setRow (g := B') (fun h => h rfl) C2
    have b2 := Below.setRow b1 hB' C2
    have q3 : Blk ((W1.setRow B C1).setRow B' C2) B' U C2 := setRow_heap _ _ _ _ _ _ q2
    have q4 := q1.keptIn k2 hne
    refine wpAnyH_one hr3 hok fun K hK => ?_
    refine step_store_row hgk T (.tmp di) (.tmp y1) hpk B C1 (by rw [eval_put_other hd, eval_put_self hdi]) (by rw [eval_put_other hy1.2, eval_put_other hy1.1, e1]) T Z g1 hc1 hl1 ho1 ?_
    rw [hsk]
    refine hK _ _ (ext_trans hE (ext_of b1)) ?_
    refine wpAnyH_one hr4 hom fun K hK => ?_
    refine step_store_row hgm U (.tmp dj) (.tmp y2) hpm B' C2 (eval_put_self (by simpa [Act.put] using hdj)) (by show Act.eval ((a.put (some di) _).put (some dj) _) (.tmp y2) = _; rw [eval_put_other hy2.2, eval_put_other hy2.1, e2]) U ZU q2 hc2 hl2 ho2 ?_
    rw [hsm]
    refine hK _ _ (ext_trans hE (ext_of b2)) ?_
    exact ⟨hr5, h B B' _ hne hB hB' b2 q4 q3⟩
  refine wpAnyH_two hr0 hoi hoj (fun K hK => ?_) (fun K hK => ?_)
  · rw [if_pos (by simp [Region.wanted, hgi])]
    refine val_alloc (R := fun v W' => v = .pointer (some ⟨W.heap.size, 0, none⟩) ∧ W' = W.alloc (.cells Z T)) T hpi Z z ti hti hz hzc ⟨rfl, rfl⟩ K ?_
    rintro v W' ⟨hb, rfl, rfl⟩
    rw [hsi]
    refine hK _ _ (ext_trans hE (ext_of hb)) ?_
    refine wpAnyH_one hr1 hoj fun K2 hK2 => ?_
    rw [if_pos (by simp [Region.wanted, hgj])]
    refine val_alloc (R := fun v W' => v = .pointer (some ⟨(W.alloc (.cells Z T)).heap.size, 0, none⟩) ∧ W' = (W.alloc (.cells Z T)).alloc (.cells ZU U)) U hpj ZU zu tu htu hzu hzuc ⟨rfl, rfl⟩ K2 ?_
    rintro v W' ⟨hb2, rfl, rfl⟩
    rw [hsj]
    have hb3 := hb.trans (hb2.mono hb.size)
    refine hK2 _ _ (ext_trans hE (ext_of hb3)) ?_
    exact fin _ _ _ (by rw [World.size_alloc]; omega) (Nat.le_refl _) (by rw [World.size_alloc]; omega) hb3 ((Blk.new _ _ _).alloc _) (Blk.new _ _ _)
  · rw [if_pos (by simp [Region.wanted, hgj])]
    refine val_alloc (R := fun v W' => v = .pointer (some ⟨W.heap.size, 0, none⟩) ∧ W' = W.alloc (.cells ZU U)) U hpj ZU zu tu htu hzu hzuc ⟨rfl, rfl⟩ K ?_
    rintro v W' ⟨hb, rfl, rfl⟩
    rw [hsj]
    refine hK _ _ (ext_trans hE (ext_of hb)) ?_
    refine wpAnyH_one hr2 hoi fun K2 hK2 => ?_
    rw [if_pos (by simp [Region.wanted, hgi])]
    refine val_alloc (R := fun v W' => v = .pointer (some ⟨(W.alloc (.cells ZU U)).heap.size, 0, none⟩) ∧ W' = (W.alloc (.cells ZU U)).alloc (.cells Z T)) T hpi Z z ti hti hz hzc ⟨rfl, rfl⟩ K2 ?_
    rintro v W' ⟨hb2, rfl, rfl⟩
    rw [hsi]
    have hb3 := hb.trans (hb2.mono hb.size)
    refine hK2 _ _ (ext_trans hE (ext_of hb3)) ?_
    rw [Array.setIfInBounds_comm _ _ (fun e => hij e.symm), put_comm (fun e => hd e.symm)]
    exact fin _ _ _ (by rw [World.size_alloc]; omega) (by rw [World.size_alloc]; omega) (Nat.le_refl _) hb3 (Blk.new _ _ _) ((Blk.new _ _ _).alloc _)
/-- A struct of known parts, quiet, under a guard that holds. -/
theorem wpQuiet_buildN_g {ops : Array Oper} {rest : List Oper} {op : Oper} {a : Act} {C : World → Prop} {Q1 : Act → Prop} (hw : Region.wanted op (yielded ops a.tmps) = true) (t : TypeId) (parts : Array (Nat × Operand)) (ho : op.op = .build t parts)
    (vals : List (Nat × Value)) (hv : parts.toList.map (fun (x : Nat × Operand) => (x.fst, a.eval x.snd)) = vals) (Z : Array Value) (hZ : P.built t vals = some Z)
    (h : wpQuiet P ops C Q1 rest (a.put op.dst (.agg Z))) : wpQuiet P ops C Q1 (op :: rest) a := by
  unfold wpQuiet
  rw [if_pos hw]
  refine ⟨_, fun w hC => ?_, h⟩
  unfold Oper.quietAt execOp
  simp only [ho, Sem.run_bind]
  rw [show parts.map (fun (x : Nat × Operand) => (x.fst, a.eval x.snd)) = vals.toArray from by subst hv; obtain ⟨l⟩ := parts; simp only [List.map_toArray], run_build w t _ Z hZ]
  exact ⟨rfl, rfl⟩
end
end Go.Proofs.Yteofgkdpknaapaa
