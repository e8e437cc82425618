/- Package net: Parse, its answer, its readers and its end. -/
import Derived.Test.YteofgkdpknaapaaN9
namespace Go.Proofs.Yteofgkdpknaapaa
open Go.RowKit Go.Sort

/-- What Parse answers. -/
def ParseR (bs : List UInt8) (w : World) (e : Ending) (w' : World) : Prop :=
  (∃ (vd vp vb vs : Value), e = .returned (.tuple #[.agg (pkC (ansP bs).1.kind (ansP bs).1.who (ansP bs).1.n vd vp vb vs).toArray, .int .i64 (ansP bs).2]) ∧
    (∃ A c, vd = .slice A (ansP bs).1.data.length c ∧ (ansP bs).1.data.length ≤ c ∧ TRd w' 5 1 A (ansP bs).1.data.length ((ansP bs).1.data.map byteV)) ∧
    (∃ A c, vp = .slice A (ansP bs).1.proof.length c ∧ (ansP bs).1.proof.length ≤ c ∧ TRd w' 93 32 A (ansP bs).1.proof.length ((ansP bs).1.proof.flatMap sumC)) ∧
    (∃ A c, vb = .slice A (ansP bs).1.body.length c ∧ (ansP bs).1.body.length ≤ c ∧ TRd w' 5 1 A (ansP bs).1.body.length ((ansP bs).1.body.map byteV)) ∧
    (∃ A c, vs = .slice A (ansP bs).1.sigs.length c ∧ (ansP bs).1.sigs.length ≤ c ∧ SgsAt w' A (ansP bs).1.sigs.length (ansP bs).1.sigs)) ∧ Below w.heap.size w w'
theorem trd_none (w : World) (e : TypeId) (sz : Nat) : TRd w e sz none 0 [] := ⟨Rd.nil _ _ _, fun h => absurd h (by omega)⟩
/-- The answer where the bytes are damaged. -/
theorem parse_none {bs : List UInt8} {w w' : World} (h : parP bs = none) (hb : Below w.heap.size w w') : ParseR bs w (.returned (.tuple #[.agg #[.int .i64 0, .int .i64 0, .int .i64 0, nl, nl, nl, nl], .int .i64 310])) w' := by
  have e : ansP bs = (pk0, 310) := by unfold ansP; rw [h]
  unfold ParseR
  rw [e]
  exact ⟨⟨nl, nl, nl, nl, rfl, ⟨none, 0, rfl, Nat.le_refl _, trd_none _ _ _⟩, ⟨none, 0, rfl, Nat.le_refl _, trd_none _ _ _⟩, ⟨none, 0, rfl, Nat.le_refl _, trd_none _ _ _⟩, ⟨none, 0, rfl, Nat.le_refl _, [], trd_none _ _ _, KvsOk.nil _⟩⟩, hb⟩
/-- A packet in seven cells. -/
def PkV (w : World) (p : Pk) (vd vp vb vs : Value) : Prop :=
    (∃ A c, vd = .slice A p.data.length c ∧ p.data.length ≤ c ∧ TRd w 5 1 A p.data.length (p.data.map byteV)) ∧
    (∃ A c, vp = .slice A p.proof.length c ∧ p.proof.length ≤ c ∧ TRd w 93 32 A p.proof.length (p.proof.flatMap sumC)) ∧
    (∃ A c, vb = .slice A p.body.length c ∧ p.body.length ≤ c ∧ TRd w 5 1 A p.body.length (p.body.map byteV)) ∧
    (∃ A c, vs = .slice A p.sigs.length c ∧ p.sigs.length ≤ c ∧ SgsAt w A p.sigs.length p.sigs)
/-- What the reader of a kind answers. -/
def TailQ (rb pb k u n : Nat) (bs : List UInt8) (w : World) (e : Ending) (w' : World) : Prop :=
  (match tailR k u n bs with
    | some x => e = .returned (.tuple #[]) ∧ RdS w' rb x.2 ∧ x.1.kind = (k : Int) ∧ x.1.who = (u : Int) ∧ x.1.n = (n : Int) ∧ ∃ (vd vp vb vs : Value), Blk w' pb 39 (pkC (k : Int) (u : Int) (n : Int) vd vp vb vs).toArray ∧ PkV w' x.1 vd vp vb vs
    | none => e = .panicked dmg ∧ PkAt w' pb (k : Int) (u : Int) (n : Int)) ∧ Two rb pb w w'
/-- The reader of a kind. -/
def fnOf (k : Nat) : Option FuncId := if k = 1 then some 54 else if k = 2 then some 55 else if k = 3 then some 56 else if k = 4 then some 57 else none
theorem pk_nil (w : World) (k u n : Int) : PkV w ⟨k, u, n, [], [], [], []⟩ nl nl nl nl :=
  ⟨⟨none, 0, rfl, Nat.le_refl _, trd_none _ _ _⟩, ⟨none, 0, rfl, Nat.le_refl _, trd_none _ _ _⟩, ⟨none, 0, rfl, Nat.le_refl _, trd_none _ _ _⟩, ⟨none, 0, rfl, Nat.le_refl _, [], trd_none _ _ _, KvsOk.nil _⟩⟩
theorem kinds_at (k : Nat) : ((kinds.find? (fun p => p.1 == (k : Int))).map (·.2)).getD .nilFunc = (match fnOf k with | some f => fnV f | none => .nilFunc) ∧ (kinds.find? (fun p => p.1 == (k : Int))).isSome = (fnOf k).isSome := by
  by_cases h1 : k = 1
  · subst h1; exact ⟨rfl, rfl⟩
  by_cases h2 : k = 2
  · subst h2; exact ⟨rfl, rfl⟩
  by_cases h3 : k = 3
  · subst h3; exact ⟨rfl, rfl⟩
  by_cases h4 : k = 4
  · subst h4; exact ⟨rfl, rfl⟩
  have e : kinds.find? (fun p => p.1 == (k : Int)) = none := by
    unfold kinds
    rw [List.find?_eq_none]
    intro p hp
    simp only [List.mem_cons, List.not_mem_nil, or_false] at hp
    rcases hp with rfl | rfl | rfl | rfl <;> simp <;> omega
  have e2 : fnOf k = none := by unfold fnOf; rw [if_neg h1, if_neg h2, if_neg h3, if_neg h4]
  rw [e, e2]
  exact ⟨rfl, rfl⟩
theorem tail_none {k u n : Nat} {bs : List UInt8} (h : fnOf k = none) : tailR k u n bs = none := by
  unfold fnOf at h
  unfold tailR
  repeat' split at h
  all_goals first | contradiction | skip
  rename_i h1 h2 h3 h4
  rw [if_neg h1, if_neg h2, if_neg h3, if_neg h4]
theorem tail_any {f : FuncId} (rb pb k u n : Nat) (bs : List UInt8) (w : World) (hf : fnOf k = some f) (hS : RdS w rb bs) (hP : Blk w pb 39 (pkC (k : Int) (u : Int) (n : Int) nl nl nl nl).toArray) :
    Calls Try.prog f #[.pointer (some ⟨rb, 0, none⟩), .pointer (some ⟨pb, 0, none⟩)] w (TailQ rb pb k u n bs w) := by
  unfold fnOf at hf
  have ht : Two rb pb w w := KeptIn.refl _ w
  split at hf
  · rename_i h1
    subst h1
    cases hf
    refine (ask_any rb pb _ _ n w hP).mono ?_
    rintro e w' ⟨h, rfl⟩
    refine ⟨?_, ht⟩
    unfold tailR
    rw [if_pos rfl]
    by_cases h0 : n = 0
    · subst h0
      rw [if_pos rfl] at h
      rw [if_pos rfl]
      exact ⟨h, hS, rfl, rfl, rfl, nl, nl, nl, nl, hP, pk_nil _ _ _ _⟩
    · rw [if_neg h0] at h
      rw [if_neg h0]
      exact ⟨h, _, _, _, _, hP⟩
  split at hf
  · rename_i h1 h2
    subst h2
    cases hf
    refine (meta_any rb pb _ _ n bs w hS hP).mono ?_
    rintro e w' ⟨h, ho⟩
    refine ⟨?_, ho⟩
    unfold tailR
    rw [if_neg h1, if_pos rfl]
    cases hm : metaR n bs with
    | none => rw [hm] at h; exact h
    | some x =>
      rw [hm] at h
      obtain ⟨x, t⟩ := x
      obtain ⟨h, hs, A, B, c, d, hb, hc, hd, ha, hg⟩ := h
      exact ⟨h, hs, rfl, rfl, rfl, nl, nl, _, _, hb, ⟨none, 0, rfl, Nat.le_refl _, trd_none _ _ _⟩, ⟨none, 0, rfl, Nat.le_refl _, trd_none _ _ _⟩, ⟨_, _, rfl, hc, ha⟩, ⟨_, _, rfl, hd, hg⟩⟩
  split at hf
  · rename_i h1 h2 h3
    subst h3
    cases hf
    refine (none_any rb pb w).mono ?_
    rintro e w' ⟨h, rfl⟩
    refine ⟨?_, ht⟩
    unfold tailR
    rw [if_neg h1, if_neg h2, if_pos rfl]
    exact ⟨h, hS, rfl, rfl, rfl, nl, nl, nl, nl, hP, pk_nil _ _ _ _⟩
  split at hf
  · rename_i h1 h2 h3 h4
    subst h4
    cases hf
    refine (chunk_any rb pb _ _ _ bs w hS hP).mono ?_
    rintro e w' ⟨h, ho⟩
    refine ⟨?_, ho⟩
    unfold tailR
    rw [if_neg h1, if_neg h2, if_neg h3, if_pos rfl]
    cases hm : chunkR bs with
    | none => rw [hm] at h; exact h
    | some x =>
      rw [hm] at h
      obtain ⟨x, t⟩ := x
      obtain ⟨h, hs, A, B, c, d, hb, hc, hd, ha, hg⟩ := h
      exact ⟨h, hs, rfl, rfl, rfl, _, _, nl, nl, hb, ⟨_, _, rfl, hc, ha⟩, ⟨_, _, rfl, hd, hg⟩, ⟨none, 0, rfl, Nat.le_refl _, trd_none _ _ _⟩, ⟨none, 0, rfl, Nat.le_refl _, [], trd_none _ _ _, KvsOk.nil _⟩⟩
  · contradiction
/-- A packet is read. -/
theorem parse_some {bs : List UInt8} {w w' : World} {p : Pk} {k u n : Int} {vd vp vb vs : Value} (h : parP bs = some p) (hk : p.kind = k) (hu : p.who = u) (hn : p.n = n) (hv : PkV w' p vd vp vb vs) (hb : Below w.heap.size w w') : ParseR bs w (.returned (.tuple #[.agg #[.int .i64 k, .int .i64 u, .int .i64 n, vd, vp, vb, vs], .int .i64 0])) w' := by
  have e : ansP bs = (p, 0) := by unfold ansP; rw [h]
  unfold ParseR
  rw [e]
  obtain ⟨h1, h2, h3, h4⟩ := hv
  subst hk hu hn
  exact ⟨⟨vd, vp, vb, vs, rfl, h1, h2, h3, h4⟩, hb⟩
set_option maxRecDepth 100000 in
set_option maxHeartbeats 1000000 in
/-- Parse ends damaged. -/
theorem parse_door {bs : List UInt8} {w W : World} {tmps : Array Value} {k u n e0 : Int} {vd vp vb vs : Value} (h2 : tmps[2]? = some (.pointer (some ⟨w.heap.size, 0, none⟩))) (h3 : tmps[3]? = some (.pointer (some ⟨w.heap.size + 1, 0, none⟩)))
    (hP : Blk W w.heap.size 39 (pkC k u n vd vp vb vs).toArray) (hE : Blk W (w.heap.size + 1) 40 #[.int .i64 e0]) (hb : Below w.heap.size w W) (hn : parP bs = none) :
    bodyPostD Try.prog Try.f22 (ParseR bs w) (Exit.panic dmg) { tmps := tmps, defers := [{ target := Target.fn (Fn.func 37) #[Value.pointer (some { block := w.heap.size, off := 0 }), Value.pointer (some { block := w.heap.size + 1, off := 0 })], args := #[] }] } W := by
  refine leaves_cons (f := 37) (args := #[.pointer (some ⟨w.heap.size, 0, none⟩), .pointer (some ⟨w.heap.size + 1, 0, none⟩)]) (by simp) (by simp [go_sem]) ?_
  refine (catch_dmg _ _ _ _ _ _ _ _ _ _ [] _ hP hE).mono ?_
  rintro e u' wD ⟨rfl, rfl, hP3, hE3, hk3⟩
  have HP3 := Lib.hid hP3
  have e3 : wD.cell? ⟨w.heap.size + 1, 0, none⟩ = some (.int .i64 310) := by rw [hE3.cell]; rfl
  have p0 : wD.cell? ⟨w.heap.size, 0, none⟩ = some (.int .i64 0) := by rw [hP3.cell]; rfl
  have p1 : wD.cell? ⟨w.heap.size, 1, none⟩ = some (.int .i64 0) := by rw [hP3.cell]; rfl
  have p2 : wD.cell? ⟨w.heap.size, 2, none⟩ = some (.int .i64 0) := by rw [hP3.cell]; rfl
  have p3 : wD.cell? ⟨w.heap.size, 3, none⟩ = some (nl) := by rw [hP3.cell]; rfl
  have p4 : wD.cell? ⟨w.heap.size, 4, none⟩ = some (nl) := by rw [hP3.cell]; rfl
  have p5 : wD.cell? ⟨w.heap.size, 5, none⟩ = some (nl) := by rw [hP3.cell]; rfl
  have p6 : wD.cell? ⟨w.heap.size, 6, none⟩ = some (nl) := by rw [hP3.cell]; rfl
  show Leaves _ _ _ _ _ _ _
  simp [Leaves, settle, results, Try.results22, go_sem, h2, h3, e3, p0, p1, p2, p3, p4, p5, p6]
  exact parse_none hn (hb.trans (KeptIn.below hk3 fun q hq => ⟨by omega, by omega, by have := hb.size; omega⟩))
theorem modify_same {α : Type} (a : Array α) (i : Nat) (f : α → α) (h : ∀ x, a[i]? = some x → f x = x) : a.modify i f = a := by
  apply Array.ext_getElem?
  intro j
  rw [Array.getElem?_modify]
  by_cases e : i = j
  · subst e
    rw [if_pos rfl]
    cases hx : a[i]? with
    | none => rfl
    | some x => rw [Option.map_some, h x hx]
  · rw [if_neg e]
theorem setRow_same {w : World} {B : Nat} {t : TypeId} {cs : Array Value} (h : Blk w B t cs) : w.setRow B cs = w := by
  unfold World.setRow
  rw [modify_same]
  intro x hx
  rw [h] at hx
  cases hx
  rfl
theorem setCell_same {w : World} {B i : Nat} {t : TypeId} {cs : Array Value} {v : Value} (h : Blk w B t cs) (hv : cs[i]? = some v) : w.setCell ⟨B, i, none⟩ v = w := by
  unfold World.setCell
  rw [modify_same]
  intro x hx
  rw [h] at hx
  cases hx
  show Obj.cells (cs.setIfInBounds i v) t (0, 0) = _
  congr 1
  apply Array.ext_getElem?
  intro j
  by_cases e : i = j
  · subst e
    rw [hv]
    have hi : i < cs.size := (Array.getElem?_eq_some_iff.1 hv).1
    simp [hi]
  · rw [Array.getElem?_setIfInBounds_ne e]
set_option maxRecDepth 100000 in
set_option maxHeartbeats 1000000 in
/-- Parse ends well. -/
theorem parse_end {bs : List UInt8} {w W : World} {tmps : Array Value} {p : Pk} {k u n : Int} {vd vp vb vs : Value} (h2 : tmps[2]? = some (.pointer (some ⟨w.heap.size, 0, none⟩))) (h3 : tmps[3]? = some (.pointer (some ⟨w.heap.size + 1, 0, none⟩)))
    (hP : Blk W w.heap.size 39 (pkC k u n vd vp vb vs).toArray) (hE : Blk W (w.heap.size + 1) 40 #[.int .i64 0]) (hb : Below w.heap.size w W) (hn : parP bs = some p) (hk : p.kind = k) (hu : p.who = u) (hnn : p.n = n) (hv : PkV W p vd vp vb vs) :
    bodyPostD Try.prog Try.f22 (ParseR bs w) Exit.ret { tmps := tmps, defers := [{ target := Target.fn (Fn.func 37) #[Value.pointer (some { block := w.heap.size, off := 0 }), Value.pointer (some { block := w.heap.size + 1, off := 0 })], args := #[] }] } W := by
  refine leaves_cons (f := 37) (args := #[.pointer (some ⟨w.heap.size, 0, none⟩), .pointer (some ⟨w.heap.size + 1, 0, none⟩)]) (by simp) (by simp [go_sem]) ?_
  refine (catch_idle _ _ W).mono ?_
  rintro e u' wD ⟨rfl, rfl, rfl⟩
  have e3 : wD.cell? ⟨w.heap.size + 1, 0, none⟩ = some (.int .i64 0) := by rw [hE.cell]; rfl
  have p0 : wD.cell? ⟨w.heap.size, 0, none⟩ = some (.int .i64 k) := by rw [hP.cell]; rfl
  have p1 : wD.cell? ⟨w.heap.size, 1, none⟩ = some (.int .i64 u) := by rw [hP.cell]; rfl
  have p2 : wD.cell? ⟨w.heap.size, 2, none⟩ = some (.int .i64 n) := by rw [hP.cell]; rfl
  have p3 : wD.cell? ⟨w.heap.size, 3, none⟩ = some (vd) := by rw [hP.cell]; rfl
  have p4 : wD.cell? ⟨w.heap.size, 4, none⟩ = some (vp) := by rw [hP.cell]; rfl
  have p5 : wD.cell? ⟨w.heap.size, 5, none⟩ = some (vb) := by rw [hP.cell]; rfl
  have p6 : wD.cell? ⟨w.heap.size, 6, none⟩ = some (vs) := by rw [hP.cell]; rfl
  show Leaves _ _ _ _ _ _ _
  simp [Leaves, settle, results, Try.results22, go_sem, h2, h3, e3, p0, p1, p2, p3, p4, p5, p6]
  exact parse_some hn hk hu hnn hv hb
end Go.Proofs.Yteofgkdpknaapaa
