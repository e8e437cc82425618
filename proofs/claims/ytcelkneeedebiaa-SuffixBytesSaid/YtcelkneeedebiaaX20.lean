/- The sort of a list of places by their keys. -/
import Derived.Test.YtcelkneeedebiaaX19
namespace Go.Proofs.Ytcelkneeedebiaa
open Go Go.RowKit Go.Sort Go.Shelf

section
variable {α : Type} [Inhabited α]
theorem sw_heap (enc : α → Value) (w : World) (O off m : Nat) (dk : Array α) (os : Array Obj) {k : Nat} (hk : k < w.heap.size) (hne : k ≠ O) : (sortWorld enc w O off m dk os).heap[k]? = w.heap[k]? := by
  unfold sortWorld grow putRow mapBlock Go.Sort.ahead
  simp only
  rw [Array.getElem?_append_left (by simpa using hk), Array.getElem?_modify, if_neg (fun e => hne e.symm)]
theorem sw_kept (enc : α → Value) (w : World) (O off m : Nat) (dk : Array α) (os : Array Obj) : KeptIn (fun k => k < w.heap.size ∧ k ≠ O) w (sortWorld enc w O off m dk os) :=
  ⟨rfl, rfl, rfl, by unfold sortWorld grow putRow mapBlock Go.Sort.ahead; simp, fun _ h => sw_heap enc w O off m dk os h.1 h.2⟩
theorem sw_blk (enc : α → Value) (w : World) (O m : Nat) (dk : Array α) (os : Array Obj) {T : TypeId} {c : Array Value} (h : Blk w O T c) (hs : c.size = dk.size) : Blk (sortWorld enc w O 0 m dk os) O T (dk.toList.map enc).toArray := by
  have hlt := h.lt
  have h' : w.heap[O]? = some (.cells c T (0, 0)) := h
  show (sortWorld enc w O 0 m dk os).heap[O]? = some (.cells (dk.toList.map enc).toArray T (0, 0))
  unfold sortWorld grow putRow mapBlock Go.Sort.ahead
  simp only
  rw [Array.getElem?_append_left (by simpa using hlt), Array.getElem?_modify, if_pos rfl, h', Option.map_some]
  unfold onCells
  simp only
  congr 2
  apply Array.ext_getElem?
  intro i
  unfold putCells
  by_cases hi : i < dk.size
  · have h1 : c[i]? = some c[i] := Array.getElem?_eq_getElem (by omega)
    have h2 : dk[i]? = some dk[i] := Array.getElem?_eq_getElem hi
    rw [Array.getElem?_mapIdx, h1, List.getElem?_toArray, List.getElem?_map, Array.getElem?_toList, h2, Option.map_some, Option.map_some, if_pos ⟨Nat.zero_le _, by omega⟩, Nat.sub_zero, getElem!_pos dk i hi]
  · have h1 : c[i]? = none := Array.getElem?_eq_none (by omega)
    have h2 : dk[i]? = none := Array.getElem?_eq_none (by omega)
    rw [Array.getElem?_mapIdx, h1, List.getElem?_toArray, List.getElem?_map, Array.getElem?_toList, h2]; rfl
end
theorem KeyW.keptIn {T9 T5 T3 RB n width : Nat} {r : Nat → Nat} {S : Nat → Prop} {W W' : World} (h : KeyW T9 T5 T3 RB n width r W) (hk : KeptIn S W W') (h9 : S T9) (h5 : S T5) (h3 : S T3) (hr : S RB) : KeyW T9 T5 T3 RB n width r W' :=
  ⟨(hk.cell (p := ⟨T9, 0, none⟩) h9).trans h.c9, (hk.cell (p := ⟨T5, 0, none⟩) h5).trans h.c5, (hk.cell (p := ⟨T3, 0, none⟩) h3).trans h.c3, fun t ht => (hk.cell (p := ⟨RB, t, none⟩) hr).trans (h.cr t ht)⟩
theorem KeyW.lts {T9 T5 T3 RB n width : Nat} {r : Nat → Nat} {W : World} (h : KeyW T9 T5 T3 RB n width r W) : T9 < W.heap.size ∧ T5 < W.heap.size ∧ T3 < W.heap.size ∧ (0 < n → RB < W.heap.size) :=
  ⟨World.block_lt_of_cell? _ _ h.c9, World.block_lt_of_cell? _ _ h.c5, World.block_lt_of_cell? _ _ h.c3, fun h0 => World.block_lt_of_cell? _ _ (h.cr 0 h0)⟩
theorem SortedK.nil (K : Nat) : SortedK [] K [] := ⟨List.Perm.refl _, fun _ _ _ h => absurd h (Nat.not_lt_zero _)⟩
set_option maxHeartbeats 1000000 in
theorem Sort_any (T10 T9 T5 T3 RB O n c width : Nat) (r : Nat → Nat) (xs : List UInt8) (l : List Nat) (w : World) (hxl : xs.length = n) (c10 : w.cell? ⟨T10, 0, none⟩ = some (.func (.func 22) #[] #[.pointer (some ⟨T9, 0, none⟩), .pointer (some ⟨T5, 0, none⟩), .pointer (some ⟨T3, 0, none⟩)])) (hK : KeyW T9 T5 T3 RB n width r w) (hO : Blk w O 3 (l.map natV).toArray) (hl : l.Perm (List.range n)) (hrep : Rep xs (max 1 width) r)
    (n10 : T10 ≠ O) (n9 : T9 ≠ O) (n5 : T5 ≠ O) (n3 : T3 ≠ O) (nR : RB ≠ O) (hn : n ≤ 1000000) (hwd : width ≤ 1000000000) :
    Calls Try.prog 23 #[.slice (some ⟨O, 0, none⟩) n c, .func (.func 24) #[] #[.pointer (some ⟨T10, 0, none⟩)]] w fun e w' => e = .returned (.tuple #[]) ∧ ∃ l', SortedK xs (nextK width) l' ∧ Blk w' O 3 (l'.map natV).toArray ∧ KeptIn (fun k => k < w.heap.size ∧ k ≠ O) w w' := by
  subst hxl
  have hll : l.length = xs.length := by have := hl.length_eq; rwa [List.length_range] at this
  by_cases h0 : xs.length = 0
  · have hx0 : xs = [] := List.length_eq_zero_iff.1 h0
    have hl0 : l = [] := List.length_eq_zero_iff.1 (by omega)
    rw [h0]
    refine (AnyF.slices_SortFunc_none sortZ (some ⟨O, 0, none⟩) c _ w).mono ?_
    rintro e w' ⟨rfl, rfl⟩
    refine ⟨rfl, [], ?_, by rw [hl0] at hO; exact hO, KeptIn.refl _ _⟩
    rw [hx0]; exact SortedK.nil _
  · have hpos : 0 < xs.length := by omega
    haveI : Inhabited (Fin xs.length) := ⟨⟨0, hpos⟩⟩
    have hlt : ∀ x ∈ l, x < xs.length := fun x hx => List.mem_range.1 (hl.mem_iff.1 hx)
    let enc : Fin xs.length → Value := fun x => natV x.1
    let cf : Fin xs.length → Fin xs.length → Int := fun x y => cmpK xs.length r width x.1 y.1
    let d : Array (Fin xs.length) := (l.pmap (fun x h => (⟨x, h⟩ : Fin xs.length)) hlt).toArray
    have hdl : d.toList.map (fun x => x.1) = l := by
      show (l.pmap (fun x h => (⟨x, h⟩ : Fin xs.length)) hlt).map (fun x => x.1) = l
      rw [List.map_pmap, List.pmap_eq_map, List.map_id']
    have hds : d.size = xs.length := by
      show (l.pmap (fun x h => (⟨x, h⟩ : Fin xs.length)) hlt).toArray.size = _
      rw [List.size_toArray, List.length_pmap, hll]
    have hcf : ∀ i j, cf i j < 0 ↔ keyLt xs.length r width i.1 j.1 := fun i j => cmpK_lt _ _ _ _ _
    have hsw : SWO (ltOf cf) := by
      have := swo_key xs (nextK width) xs.length
      rw [← lt_key hrep hcf] at this
      exact this
    have hat : ∀ (a : Array (Fin xs.length)) (j : Nat) (hj : j < a.size), (a.toList.map enc)[j]? = some (enc a[j]!) := fun a j hj => by
      rw [List.getElem?_map, Array.getElem?_toList, Array.getElem?_eq_getElem hj, getElem!_pos a j hj]; rfl
    have hlm : l.map natV = d.toList.map enc := by
      conv => lhs; rw [← hdl]
      rw [List.map_map]; rfl
    rw [hlm] at hO
    have hH : Holds enc w O 0 d := fun j hj => ⟨by rw [Nat.zero_add, hO.cell, List.getElem?_toArray]; exact hat d j hj, hO.frozen _⟩
    obtain ⟨q9, q5, q3, qR⟩ := hK.lts
    have q10 := World.block_lt_of_cell? _ _ c10
    have hcmp : CmpLays1 Try.prog 24 #[.pointer (some ⟨T10, 0, none⟩)] enc cf O 0 d.size w := fun m os dk hs x y => by
      have hk := sw_kept enc w O 0 m dk os
      refine (Cmp_any T10 T9 T5 T3 RB xs.length width r x.1 y.1 (sortWorld enc w O 0 m dk os) ?_ (hK.keptIn hk ⟨q9, n9⟩ ⟨q5, n5⟩ ⟨q3, n3⟩ ⟨qR hpos, nR⟩) x.2 y.2 hn hwd).mono ?_
      · exact (hk.cell (p := ⟨T10, 0, none⟩) ⟨q10, n10⟩).trans c10
      · rintro e w' ⟨rfl, hb, hdr⟩
        exact ⟨rfl, grown_of_below hb hdr⟩
    have eg : ∀ args w, (callFunc 24 args).run Try.prog w = .ok (.enter 24 args) w := enters_of Try.func24 (by kernel_rfl) rfl
    have key := Any.slices_SortFunc sortL enc (fun _ => rfl) cf hsw 24 #[.pointer (some ⟨T10, 0, none⟩)] O 0 c d w eg hcmp hH hO.lt (by omega)
    rw [show Value.slice (some ⟨O, 0, none⟩) xs.length c = Value.slice (some ⟨O, 0, none⟩) d.size c by rw [hds]]
    refine key.mono ?_
    rintro e w' ⟨rfl, d', m, os, hp, hs, rfl⟩
    refine ⟨rfl, d'.toList.map (fun x => x.1), sortedK_of hrep hcf hds (by rw [hdl]; exact hl) hp hs, ?_, sw_kept enc w O 0 m d' os⟩
    rw [List.map_map]
    exact sw_blk enc w O m d' os hO (by rw [List.size_toArray, List.length_map, Array.length_toList, hp.1])
end Go.Proofs.Ytcelkneeedebiaa
