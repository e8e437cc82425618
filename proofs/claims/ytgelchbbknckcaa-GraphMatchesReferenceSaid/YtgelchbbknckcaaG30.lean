/- Package graph's reference: All, what is plain. -/
import Derived.Test.YtgelchbbknckcaaG29
namespace Go.Proofs.Ytgelchbbknckcaa
open Go.RowKit Go.Sort

theorem made3 (k : Nat) (hk : k ≤ 16) : madeCells (Value.agg (rwV wm0).toArray).cells (k * 3) = ((List.replicate k wm0).flatMap rwV).toArray := by
  rcases (by omega : k = 0 ∨ k = 1 ∨ k = 2 ∨ k = 3 ∨ k = 4 ∨ k = 5 ∨ k = 6 ∨ k = 7 ∨ k = 8 ∨ k = 9 ∨ k = 10 ∨ k = 11 ∨ k = 12 ∨ k = 13 ∨ k = 14 ∨ k = 15 ∨ k = 16) with rfl | rfl | rfl | rfl | rfl | rfl | rfl | rfl | rfl | rfl | rfl | rfl | rfl | rfl | rfl | rfl | rfl <;> kernel_rfl
theorem mkRef (w : World) (k : Nat) (hk : k ≤ 16) : (Instr.makeSlice 71 (.int .i64 (k : Int)) (.int .i64 (k : Int))).run Try.prog w = .ok (.slice (some ⟨w.heap.size, 0, none⟩) k k) (w.alloc (.cells ((List.replicate k wm0).flatMap rwV).toArray 74)) := by
  obtain ⟨i0, hi0, hz0, hz1, hz2⟩ := info_parts info74
  rw [run_makeSlice w 71 74 i0 _ Try.underlying71 hi0 hz0 .i64 .i64 (k : Int) (k : Int) (by omega) (Int.le_refl _) (by rw [hz1]; omega) (by rw [hz2]; omega) (by omega)]
  rw [Int.toNat_natCast, hz1, made3 k hk]
theorem flat_set3 {x y : Wm} {j : Nat} {u : Value} (hj : j < 3) (hy : (rwV x).set j u = rwV y) : ∀ {outs : List Wm} {i : Nat}, outs[i]? = some x → (outs.flatMap rwV).set (i * 3 + j) u = (outs.set i y).flatMap rwV
  | [], i, h => by simp at h
  | a :: l, 0, h => by
    simp at h; subst h
    rw [List.set_cons_zero, List.flatMap_cons, List.flatMap_cons, Nat.zero_mul, Nat.zero_add, List.set_append_left _ _ (by rw [rwV_len]; omega), hy]
  | a :: l, i + 1, h => by
    simp at h
    rw [List.set_cons_succ, List.flatMap_cons, List.flatMap_cons, List.set_append_right _ _ (by rw [rwV_len]; omega), rwV_len, show (i + 1) * 3 + j - 3 = i * 3 + j by omega, flat_set3 hj hy h]
theorem Blk.set3 {w : World} {ob i j : Nat} {outs : List Wm} {x y : Wm} {u : Value} (h : Blk w ob 74 (outs.flatMap rwV).toArray) (hx : outs[i]? = some x) (hj : j < 3) (hy : (rwV x).set j u = rwV y) : Blk (w.setCell ⟨ob, i * 3 + j, none⟩ u) ob 74 ((outs.set i y).flatMap rwV).toArray := by
  have := heap_setCell_same w ob (i * 3 + j) _ 74 u h
  rw [List.setIfInBounds_toArray, flat_set3 hj hy hx] at this
  exact this
theorem flat_get3 {x : Wm} {j : Nat} (hj : j < 3) : ∀ {outs : List Wm} {i : Nat}, outs[i]? = some x → (outs.flatMap rwV)[i * 3 + j]? = (rwV x)[j]?
  | [], i, h => by simp at h
  | a :: l, 0, h => by
    simp at h; subst h
    rw [List.flatMap_cons, Nat.zero_mul, Nat.zero_add, List.getElem?_append_left (by rw [rwV_len]; omega)]
  | a :: l, i + 1, h => by
    simp at h
    rw [List.flatMap_cons, List.getElem?_append_right (by rw [rwV_len]; omega), rwV_len, show (i + 1) * 3 + j - 3 = i * 3 + j by omega, flat_get3 hj h]
theorem Blk.at3 {w : World} {ob i : Nat} {outs : List Wm} {x : Wm} (h : Blk w ob 74 (outs.flatMap rwV).toArray) (hx : outs[i]? = some x) : w.rangeAt ob (i * 3) (rwV x) := fun j v hv => by
  have hj : j < 3 := by have := (List.getElem?_eq_some_iff.1 hv).1; rwa [rwV_len] at this
  rw [h.cell, List.getElem?_toArray, flat_get3 hj hx, hv]
theorem Blk.setR {w : World} {ob t : Nat} {os : List Wm} {x nx : Wm} (h : Blk w ob 74 (os.flatMap rwV).toArray) (hx : os[t]? = some x) (hk : nx.kn = x.kn) : Blk (w.setCells ob (t * 3) (rwV nx)) ob 74 ((os.set t nx).flatMap rwV).toArray := by
  have ht := (List.getElem?_eq_some_iff.1 hx).1
  have h1 := Blk.set3 (j := 0) (y := ⟨nx.A, nx.n, nx.c, x.w, x.f, x.kn⟩) (u := .slice nx.A nx.n nx.c) h hx (by decide) rfl
  have h2 := Blk.set3 (j := 1) (y := ⟨nx.A, nx.n, nx.c, nx.w, x.f, x.kn⟩) (u := .int .i64 (nx.w.1 : Int)) h1 (List.getElem?_set_self ht) (by decide) rfl
  rw [List.set_set] at h2
  have h3 := Blk.set3 (j := 2) (y := nx) (u := .bool nx.f) h2 (List.getElem?_set_self ht) (by decide) (by cases nx; cases x; rfl)
  rw [List.set_set] at h3
  exact h3
theorem kept_setR (w : World) (ob o : Nat) (nx : Wm) : KeptIn (fun k => k ≠ ob) w (w.setCells ob o (rwV nx)) :=
  (((KeptIn.refl _ _).setAt (p := ⟨ob, o, none⟩) (fun h => h rfl) _).setAt (p := ⟨ob, o + 1, none⟩) (fun h => h rfl) _).setAt (p := ⟨ob, o + 1 + 1, none⟩) (fun h => h rfl) _
theorem below_setR {B : Nat} {a w : World} {ob : Nat} (h : Below B a w) (hb : B ≤ ob) (o : Nat) (nx : Wm) : Below B a (w.setCells ob o (rwV nx)) :=
  (((h.setCell (p := ⟨ob, o, none⟩) hb _).setCell (p := ⟨ob, o + 1, none⟩) hb _).setCell (p := ⟨ob, o + 1 + 1, none⟩) hb _)
theorem built74 (A : Option Addr) (n c : Nat) (k : Int) : Try.prog.built 74 [(0, .slice A n c), (1, .int .i64 k), (2, .bool true)] = some #[.slice A n c, .int .i64 k, .bool true] := by kernel_rfl
theorem built74z : Try.prog.built 74 [(2, .bool true)] = some (rwV { wm0 with f := true }).toArray := by kernel_rfl
end Go.Proofs.Ytgelchbbknckcaa
