/- Package net: rows and bytes that are changed in place; what Forge answers. -/
import Derived.Test.YteofgkdpknaapaaN25
import Derived.Laws.BitsAllLaws
namespace Go.Proofs.Yteofgkdpknaapaa
open Go.RowKit Go.Sort

theorem w8x_xor (x y : UInt8) : bits .xor .u8 (x.toNat : Int) (y.toNat : Int) = ((x ^^^ y).toNat : Int) := by
  rw [u8_xor_nat _ _ x.toNat_lt y.toNat_lt, UInt8.toNat_xor]
theorem blk_setCells7 {w : World} {g t o : Nat} {cur : Array Value} (h : Blk w g t cur) (q : Pv) : ∃ cur', Blk (w.setCells g o (pvC q)) g t cur' := by
  have h1 := heap_setCell_same w g o cur t (.int .i64 q.k) h
  have h2 := heap_setCell_same _ g (o + 1) _ t (.int .i64 q.u) h1
  have h3 := heap_setCell_same _ g (o + 1 + 1) _ t (.int .i64 q.n) h2
  have h4 := heap_setCell_same _ g (o + 1 + 1 + 1) _ t (.slice q.D q.dn q.dc) h3
  have h5 := heap_setCell_same _ g (o + 1 + 1 + 1 + 1) _ t (.slice q.P q.pn q.pc) h4
  have h6 := heap_setCell_same _ g (o + 1 + 1 + 1 + 1 + 1) _ t (.slice q.B q.bn q.bc) h5
  have h7 := heap_setCell_same _ g (o + 1 + 1 + 1 + 1 + 1 + 1) _ t (.slice q.S q.sn q.sc) h6
  exact ⟨_, h7⟩
theorem kept_setCells7 (w : World) (g o : Nat) (q : Pv) : KeptIn (fun k => k ≠ g) w (w.setCells g o (pvC q)) :=
  (((((((KeptIn.refl _ _).setAt (p := ⟨g, o, none⟩) (fun h => h rfl) _).setAt (p := ⟨g, o + 1, none⟩) (fun h => h rfl) _).setAt (p := ⟨g, o + 1 + 1, none⟩) (fun h => h rfl) _).setAt (p := ⟨g, o + 1 + 1 + 1, none⟩) (fun h => h rfl) _).setAt (p := ⟨g, o + 1 + 1 + 1 + 1, none⟩) (fun h => h rfl) _).setAt (p := ⟨g, o + 1 + 1 + 1 + 1 + 1, none⟩) (fun h => h rfl) _).setAt (p := ⟨g, o + 1 + 1 + 1 + 1 + 1 + 1, none⟩) (fun h => h rfl) _
theorem trd_there {w : World} {g off n i : Nat} {vs : List Pv} (h : TRd w 39 7 (some ⟨g, off, none⟩) n (vs.flatMap pvC)) (hi : i < n) : w.there g (off + i * 7) 7 := by
  have hl := h.1.lenf pvC_len (by omega)
  obtain ⟨cur, hB⟩ := h.2 (by omega) g off rfl
  obtain ⟨v, hv⟩ : ∃ q, vs[i]? = some q := ⟨_, List.getElem?_eq_getElem (by omega)⟩
  have hr := rd_row pvC_len (by omega) h.1 hv
  intro j hj
  refine ⟨?_, hB.frozen _⟩
  rw [hr j _ (List.getElem?_eq_getElem (by rw [pvC_len]; exact hj))]
  rfl
theorem trd_set7 {w : World} {g off n i : Nat} {vs : List Pv} {q : Pv} (h : TRd w 39 7 (some ⟨g, off, none⟩) n (vs.flatMap pvC)) (hi : i < n) : TRd (w.setCells g (off + i * 7) (pvC q)) 39 7 (some ⟨g, off, none⟩) n ((vs.set i q).flatMap pvC) := by
  have hl := h.1.lenf pvC_len (by omega)
  obtain ⟨cur, hB⟩ := h.2 (by omega) g off rfl
  have hth := trd_there h hi
  refine ⟨⟨by rw [flat7, List.length_set, hl], h.1.le, fun _ => ⟨g, off, rfl, fun j u hu => ?_⟩⟩, fun _ b o e => by cases e; exact blk_setCells7 hB q⟩
  have hj : j < n * 7 := by
    have := (List.getElem?_eq_some_iff.1 hu).1
    rwa [flat7, List.length_set, hl] at this
  obtain ⟨r, k, hk, rfl⟩ : ∃ r k, k < 7 ∧ j = r * 7 + k := ⟨j / 7, j % 7, Nat.mod_lt _ (by omega), by omega⟩
  have hr : r < n := by omega
  by_cases e : r = i
  · subst e
    rw [flat_get pvC_len _ r k q (List.getElem?_set_self (by omega)) hk] at hu
    have hc := World.cell?_setCells_in g (pvC q) (off + r * 7) w (fun j hj => (hth j hj).1) k (by rw [pvC_len]; exact hk)
    rw [← Nat.add_assoc, hc, ← hu, List.getElem?_eq_getElem]
  · obtain ⟨v, hv⟩ : ∃ q, vs[r]? = some q := ⟨_, List.getElem?_eq_getElem (by omega)⟩
    have hv' : (vs.set i q)[r]? = some v := by rw [List.getElem?_set_ne (fun h => e h.symm)]; exact hv
    rw [flat_get pvC_len _ r k v hv' hk] at hu
    rw [World.cell?_setCells_out g (pvC q) (off + i * 7) w _ (fun _ _ => by rw [pvC_len]; show off + (r * 7 + k) < off + i * 7 ∨ off + i * 7 + 7 ≤ off + (r * 7 + k); omega)]
    obtain ⟨b, o, eb, hc⟩ := h.1.2.2 (by omega)
    cases eb
    refine hc _ _ ?_
    rw [flat_get pvC_len _ r k v hv hk]
    exact hu
/-- A byte of a slice is set. -/
theorem rd_setB {w : World} {g off L i : Nat} {bs : List UInt8} (h : Rd w 1 (some ⟨g, off, none⟩) L (bs.map byteV)) (hi : i < L) (y : UInt8) : Rd (w.setCell ⟨g, off + i, none⟩ (byteV y)) 1 (some ⟨g, off, none⟩) L ((bs.set i y).map byteV) := by
  have hl := h.len1
  refine ⟨by rw [List.length_map, List.length_set]; omega, h.le, fun _ => ⟨g, off, rfl, fun j u hu => ?_⟩⟩
  obtain ⟨b, o, eb, hc⟩ := h.2.2 (by omega)
  cases eb
  rw [List.getElem?_map] at hu
  by_cases e : j = i
  · subst e
    rw [List.getElem?_set_self (by omega)] at hu
    cases hu
    obtain ⟨x, hx⟩ : ∃ x, bs[j]? = some x := ⟨_, List.getElem?_eq_getElem (by omega)⟩
    have h0 := hc j (byteV x) (by rw [List.getElem?_map, hx]; rfl)
    exact World.cell?_setCell_same _ _ _ h0
  · rw [List.getElem?_set_ne (fun h => e h.symm)] at hu
    rw [World.cell?_setCell_other _ _ _ _ (fun h => e (by have := congrArg Addr.off h; simp at this; omega))]
    exact hc j u (by rw [List.getElem?_map]; exact hu)
/-- What Forge answers. -/
def forgeP (ps : List Pk) (i at_ : Int) (y : UInt8) : List Pk × Int :=
  if 0 ≤ i ∧ i < (ps.length : Int) then
    (let b := bytP (ps.getD i.toNat pk0)
     if 0 ≤ at_ ∧ at_ < (b.length : Int) then
       (match parP (b.set at_.toNat (b.getD at_.toNat 0 ^^^ y)) with
        | some q => (ps.set i.toNat q, 0)
        | none => (ps.eraseIdx i.toNat, 0))
     else (ps, 1))
  else (ps, 310)
end Go.Proofs.Yteofgkdpknaapaa
