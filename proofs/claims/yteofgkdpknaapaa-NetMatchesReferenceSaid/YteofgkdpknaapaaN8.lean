/- Package net: the readers by kinds; a reader that reads nothing. -/
import Derived.Test.YteofgkdpknaapaaN7
namespace Go.Proofs.Yteofgkdpknaapaa
open Go.RowKit Go.Sort

/- Maps with numbers as keys. -/
def entryI (j : Nat) (p : Int × Value) : MapEntry := { key := .int .i64 p.1, val := p.2, born := j }
def entriesI (l : List (Int × Value)) : List MapEntry := l.mapIdx entryI
/-- Block B is the map with these entries. -/
def MapI (w : World) (B : Nat) (l : List (Int × Value)) : Prop := w.heap[B]? = some (.map (entriesI l).toArray l.length)
theorem entriesI_snoc (l : List (Int × Value)) (p : Int × Value) : entriesI (l ++ [p]) = entriesI l ++ [entryI l.length p] := by
  simp [entriesI, List.mapIdx_append]
theorem findNow_genI (s : Int) : ∀ (l : List (Int × Value)) (f : Nat → Nat) (i : Nat),
    Instr.findNow (.int .i64) (.int .i64 s) (l.mapIdx fun j p => entryI (f j) p) i = some ((l.find? (fun p => p.1 == s)).map (fun p => (i + l.findIdx (fun p => p.1 == s), p.2)))
  | [], f, i => by simp [Instr.findNow]
  | p :: l, f, i => by
    have ih := findNow_genI s l (fun j => f (j + 1)) (i + 1)
    rw [List.mapIdx_cons, Instr.findNow]
    have hk : Instr.sameNow (.int .i64) (.int .i64 s) (entryI (f 0) p).key = some (s == p.1) := by
      simp [entryI, Instr.sameNow]
    rw [hk]
    by_cases h : p.1 = s
    · simp [h, List.findIdx_cons, entryI]
    · have h' : (s == p.1) = false := by simpa using fun e : s = p.1 => h e.symm
      have h2 : (p.1 == s) = false := by simpa using h
      simp only [h', List.find?_cons, List.findIdx_cons, h2, cond_false]
      rw [ih]
      cases l.find? (fun p => p.1 == s) <;> simp <;> omega
section
variable {P : Program} (w : World)
theorem run_checkKeyI (b : Bool) (n : Nat) (t : TypeId) (ht : P.underlying t = some (.int .i64)) (s : Int) : (Instr.checkKey b (n + 1) t (.int .i64 s)).run P w = .ok () w := by
  simp [Instr.checkKey, run_underlying ht]
theorem run_findKeyI (t : TypeId) (ht : P.underlying t = some (.int .i64)) (s : Int) (l : List (Int × Value)) :
    (Instr.findKey t (.int .i64 s) (entriesI l)).run P w = .ok ((l.find? (fun p => p.1 == s)).map (fun p => (l.findIdx (fun p => p.1 == s), p.2))) w := by
  have h := findNow_genI s l (fun j => j) 0
  simp only [Nat.zero_add] at h
  unfold Instr.findKey
  simp only [Sem.run_bind, run_underlying ht, Result.andThen_ok]
  rw [show entriesI l = l.mapIdx (fun j p => entryI j p) from rfl, h]
  simp
end
section
variable {P : Program} {w : World}
theorem run_lookupI {B : Nat} {l : List (Int × Value)} (h : MapI w B l) (T K E : TypeId) (hT : P.underlying T = some (.map K E)) (hK : P.underlying K = some (.int .i64)) (z : Value) (hz : ∀ w, (zeroValue E).run P w = .ok z w) (s : Int) :
    (Instr.lookup T (.map (some B)) (.int .i64 s) true).run P w =
      .ok (.tuple #[((l.find? (fun p => p.1 == s)).map (·.2)).getD z, .bool ((l.find? (fun p => p.1 == s)).isSome)]) w := by
  have hf := run_findKeyI (P := P) w K hK s l
  have hc := fun b => run_checkKeyI (P := P) w b 9999 K hK s
  unfold MapI at h
  unfold Instr.lookup
  simp only [Sem.run_bind, run_underlying hT, Result.andThen_ok]
  have hg : (getObj B).run P w = .ok (.map (entriesI l).toArray l.length) w := by simp [getObj, Sem.run, h]
  simp only [hg, Sem.run_bind, Sem.run_pure, Result.andThen_ok, hc, hf]
  cases hh : l.find? (fun p => p.1 == s) with
  | none => simp [hz]
  | some p => simp
theorem run_updateI {B : Nat} {l : List (Int × Value)} (h : MapI w B l) (T K E : TypeId) (hT : P.underlying T = some (.map K E)) (hK : P.underlying K = some (.int .i64)) (s : Int) (v : Value) (hn : l.find? (fun p => p.1 == s) = none) :
    (Instr.mapUpdate T (.map (some B)) (.int .i64 s) v).run P w = .ok () (w.putObj B (.map (entriesI (l ++ [(s, v)])).toArray (l ++ [(s, v)]).length)) := by
  have hf := run_findKeyI (P := P) w K hK s l
  have hc := fun b => run_checkKeyI (P := P) w b 9999 K hK s
  unfold MapI at h
  unfold Instr.mapUpdate
  simp only [Sem.run_bind, run_underlying hT, Result.andThen_ok]
  have hg : (getObj B).run P w = .ok (.map (entriesI l).toArray l.length) w := by simp [getObj, Sem.run, h]
  simp only [hg, Sem.run_bind, Result.andThen_ok, hc, hf, hn, Option.map_none]
  simp [setObj, Sem.run, h, entriesI_snoc, entryI, World.putObj]
theorem mapI_put {B : Nat} (hB : B < w.heap.size) (l : List (Int × Value)) : MapI (w.putObj B (.map (entriesI l).toArray l.length)) B l := World.putObj_heap_same hB
theorem mapI_new (w : World) : MapI (w.alloc (.map #[] 0)) w.heap.size [] := heap_alloc_new w _
theorem below_putObj {n B : Nat} {a w : World} (h : Below n a w) (hB : n ≤ B) (o : Obj) : Below n a (w.putObj B o) := by
  refine h.trans ⟨rfl, rfl, rfl, by simp [World.putObj], fun k hk => ?_⟩
  simp only [World.putObj]
  rw [Array.getElem?_setIfInBounds_ne (by omega)]
end
/-- The readers by kinds. -/
def fnV (f : FuncId) : Value := .func (.func f) #[] #[]
def kinds : List (Int × Value) := [(1, fnV 54), (2, fnV 55), (3, fnV 56), (4, fnV 57)]
set_option maxRecDepth 100000 in
set_option maxHeartbeats 1000000 in
theorem readers_any (w : World) : Calls Try.prog 39 #[] w fun e w' => e = .returned (.map (some w.heap.size)) ∧ MapI w' w.heap.size kinds ∧ Below w.heap.size w w' := by
  have hmm := @run_makeMap Try.prog
  have hK : Try.prog.underlying 3 = some (.int .i64) := Try.underlying3
  obtain ⟨w1, hw1⟩ : ∃ v, v = w.alloc (.map #[] 0) := ⟨_, rfl⟩
  have h1 : MapI w1 w.heap.size [] := by rw [hw1]; exact mapI_new w
  have b1 : Below w.heap.size w w1 := by rw [hw1]; exact (Below.refl _ _).alloc (Nat.le_refl _) _
  have l1 : w.heap.size < w1.heap.size := by rw [hw1]; simp
  have step : ∀ (W : World) (l : List (Int × Value)) (s : Int) (f : FuncId), MapI W w.heap.size l → Below w.heap.size w W → w.heap.size < W.heap.size → l.find? (fun p => p.1 == s) = none → ∃ W', (Instr.mapUpdate 83 (.map (some w.heap.size)) (.int .i64 s) (fnV f)).run Try.prog W = .ok () W' ∧ MapI W' w.heap.size (l ++ [(s, fnV f)]) ∧ Below w.heap.size w W' ∧ w.heap.size < W'.heap.size := fun W l s f hM hb hl hn =>
    ⟨_, run_updateI hM 83 3 _ Try.underlying83 hK s (fnV f) hn, mapI_put hl _, below_putObj hb (Nat.le_refl _) _, by simpa [World.putObj] using hl⟩
  obtain ⟨w2, e2, h2, b2, l2⟩ := step w1 [] 1 54 h1 b1 l1 rfl
  obtain ⟨w3, e3, h3, b3, l3⟩ := step w2 _ 2 55 h2 b2 l2 (by decide)
  obtain ⟨w4, e4, h4, b4, l4⟩ := step w3 _ 3 56 h3 b3 l3 (by decide)
  obtain ⟨w5, e5, h5, b5, l5⟩ := step w4 _ 4 57 h4 b4 l4 (by decide)
  unfold fnV at e2 e3 e4 e5
  have H5 := Lib.hid (show MapI w5 w.heap.size kinds ∧ Below w.heap.size w w5 from ⟨h5, b5⟩)
  clear step h1 h2 h3 h4 h5 b1 b2 b3 b4 b5 l1 l2 l3 l4 l5
  subst hw1
  go_enter Try.func39, Try.ntmps39
  go_wp2_with fail
  exact bodyPost_ret (results_tmp rfl _ _ _) rfl ⟨rfl, H5.out⟩
/-- What asks for a release. -/
def AskR (n : Nat) (w : World) (e : Ending) (w' : World) : Prop := (if n = 0 then e = .returned (.tuple #[]) else e = .panicked dmg) ∧ w' = w
set_option maxRecDepth 100000 in
set_option maxHeartbeats 1000000 in
theorem ask_any (rb pb : Nat) (k u : Int) (n : Nat) (w : World) (hP : Blk w pb 39 (pkC k u (n : Int) nl nl nl nl).toArray) :
    Calls Try.prog 54 #[.pointer (some ⟨rb, 0, none⟩), .pointer (some ⟨pb, 0, none⟩)] w (AskR n w) := by
  have c2 : w.cell? ⟨pb, 2, none⟩ = some (.int .i64 (n : Int)) := by rw [hP.cell]; rfl
  by_cases h : n = 0
  · subst h
    go_enter Try.func54, Try.ntmps54
    go_wp2_with fail
    exact bodyPost_end (results_none rfl _ _ _) rfl ⟨rfl, rfl⟩
  · have hni : ¬ (n : Int) = 0 := by omega
    have hA : AskR n w (.panicked dmg) w := ⟨by rw [if_neg h], rfl⟩
    go_enter Try.func54, Try.ntmps54
    go_wp2_with fail
    exact ⟨rfl, hA⟩
set_option maxRecDepth 100000 in
theorem none_any (rb pb : Nat) (w : World) : Calls Try.prog 56 #[.pointer (some ⟨rb, 0, none⟩), .pointer (some ⟨pb, 0, none⟩)] w fun e w' => e = .returned (.tuple #[]) ∧ w' = w := by
  go_enter Try.func56, Try.ntmps56
  go_wp2_with fail
  exact bodyPost_end (results_none rfl _ _ _) rfl ⟨rfl, rfl⟩
end Go.Proofs.Yteofgkdpknaapaa
