/- A range over a function whose iterator writes one variable of its own between two rounds; package fetch: pieces, Cut. -/
import Derived.Test.YthlecmmngldodaaDoorF12
namespace Go.Proofs.YthlecmmngldodaaDoor
section
open Go.RowKit

/-- The statement 'for .. := range g', where the iterator also writes the block B, and where no round leaves the loop: what the caller says of the world does not look at B. -/
theorem range_var {P : Program} {F : Fence} {n : Nat} {α : Type} {g : Operand} {ps : Array Tmp} {assign body : Code} {Q : Exit → Act → World → Prop} {a : Act} {w : World}
    (hro : F.round = none) (h1 : 1 ≤ n) {gf : Nat} {lb : Array Value} (hg : a.eval g = .func (.func gf) #[] lb) (hFg : F.fn gf) (eg : ∀ args w, (callFunc gf args).run P w = .ok (.enter gf args) w)
    {encs : α → Array Value} {Kp : World → World → Prop} {Sd : List α → Prop} {N B : Nat} (hB : B < w.heap.size)
    (hseq : ∀ (l : Nat) (J : List α → World → Prop) (W : World), Below w.heap.size w W → AbidesFrom W.heap.size J → (∀ s X u, J s X → J s (X.setCell ⟨B, 0, none⟩ u)) →
      (∀ pre x X, J pre X → pre.length < N → YieldAt F (n - 1 - 1) P l (encs x) X fun e X' => e = .returned (.bool true) ∧ J (pre ++ [x]) X' ∧ Kp X X') → J [] W →
      CallsIn F (n - 1) P gf (#[.func (.yield l) #[] #[]] ++ lb) W fun e W' => (∃ v, e = .returned v) ∧ ∃ xs, Sd xs ∧ J xs W')
    (hKt : ∀ {X Y Z : World}, Kp X Y → Kp Y Z → Kp X Z) (hKb : ∀ (W : World) (l : Nat) (o o' : Obj), w.heap.size ≤ l → W.heap[l]? = some o → o.isCells = false → o.isWalk = false → Kp W (W.putObj l o')) (hps : ∀ x, (encs x).size = ps.size)
    (I : List α → World → Prop) (hI : OwnFrom w.heap.size I) (hIB : ∀ s X u, I s X → I s (X.setCell ⟨B, 0, none⟩ u)) (h0 : I [] w) (Ax : α → Act → World → Prop) (hAx : ∀ x a', OwnFrom w.heap.size (fun (_ : Unit) W => Ax x a' W))
    (hassign : ∀ (l : Nat) (pre : List α) (x : α) (W : World) (K : Act → World → Prop), I pre W → (∀ a' W', KeepsFrom w.heap.size W W' → Kp W W' → I pre W' → Ax x a' W' → K a' W') →
      assign.wpIn (F.inRound l) (n - 1 - 1) P (Exit.then K (fun _ _ _ => False)) { tmps := (ps.zip (encs x)).foldl (fun t (p, v) => t.setIfInBounds p v) a.tmps, defers := [] } W)
    (hbody : ∀ (l : Nat) (pre : List α) (x : α) (a' : Act) (W : World), I pre W → Ax x a' W → pre.length < N → body.wpIn (F.inRound l) (n - 1 - 1) P (ownPostG w.heap.size Kp I (fun _ _ _ => False) (pre ++ [x]) W) a' W)
    (hdone : ∀ (D : Nat) (xs : List α) (W : World), w.heap.size ≤ D → Sd xs → I xs W → W.heap[D]? = some (.deferred (some [])) → Q .normal { a with defers := { target := .collected D, args := #[] } :: a.defers } W) :
    (Code.rangeFunc g ps assign body).wpIn F n P Q a w := by
  refine wpIn_rangeFunc fun fn hfn => ?_
  rw [hro]
  -- the record of the loop, by what of it turns
  obtain ⟨R, hR⟩ : ∃ R : LoopState → Loop, R = fun st => { state := st, pending := none, fn, tmps := a.tmps, params := ps, assign, body, defers := w.heap.size } := ⟨_, rfl⟩
  obtain ⟨w1, hw1⟩ : ∃ w1, w1 = (w.alloc (.deferred (some []))).alloc (.loop (R .ready)) := ⟨_, rfl⟩
  have hs1 : w1.heap.size = w.heap.size + 2 := by rw [hw1]; simp
  have rec1 : w1.heap[w.heap.size + 1]? = some (.loop (R .ready)) := by
    have := World.alloc_heap_new (w.alloc (.deferred (some []))) (.loop (R .ready))
    rw [World.size_alloc] at this
    rw [hw1]; exact this
  have def1 : w1.heap[w.heap.size]? = some (.deferred (some [])) := by
    rw [hw1]; exact (Below.heap_alloc _ _ _ (by simp)).trans (World.alloc_heap_new w _)
  have below1 : Below w.heap.size w w1 := by rw [hw1]; exact ((Below.refl _ w).alloc (Nat.le_refl _) _).alloc (by simp) _
  have start : I [] w1 := by rw [hw1]; exact hI.alloc _ (hI.alloc _ h0)
  have setOther : ∀ (X : World) (u : Value) (k : Nat), w.heap.size ≤ k → (X.setCell ⟨B, 0, none⟩ u).heap[k]? = X.heap[k]? := fun X u k hk => Below.heap_setCell X ⟨B, 0, none⟩ u k (fun e => by simp at e; omega)
  refine ⟨w.heap.size + 1, [{ target := .collected w.heap.size, args := #[] }], w1, { target := .fn (.func gf) lb, args := #[.func (.yield (w.heap.size + 1)) #[] #[]] }, w1, gf,
    #[.func (.yield (w.heap.size + 1)) #[] #[]] ++ lb, w1, by rw [hw1, hR]; exact run_enterLoop_outer _ _ _ _ _, by simp only [resolve, hg]; simp [go_sem], fun f' hf' => by simp [Target.leads] at hf'; subst hf'; exact hFg, by simp [invoke, go_sem, eg], fun _ => h1, ?_⟩
  have turn : ∀ {X Y : World} {row : Option Nat}, X.grownBy Y row → (∀ r, row = some r → w1.heap.size ≤ r ∧ ∃ o : Obj, X.heap[r]? = some o ∧ o.isWalk = true) →
      (∀ r, row = some r → w.heap.size ≤ r ∧ ∃ o : Obj, X.heap[r]? = some o ∧ o.isCells = false) := fun _ hr r e => by
    obtain ⟨hb, o, ho, hw⟩ := hr r e
    exact ⟨by omega, o, ho, Obj.not_cells_of_walk hw⟩
  refine (hseq (w.heap.size + 1) (fun pre X => I pre X ∧ X.heap[w.heap.size + 1]? = some (.loop (R .ready)) ∧ X.heap[w.heap.size]? = some (.deferred (some []))) w1 below1
    (fun s X Y row hs hg' hr => ⟨hI s X Y row hs.1 hg' (turn hg' hr), (grownBy_keeps hg' (fun r e => (hr r e).2) hs.2.1 rfl).trans hs.2.1, (grownBy_keeps hg' (fun r e => (hr r e).2) hs.2.2 rfl).trans hs.2.2⟩)
    (fun s X u hs => ⟨hIB s X u hs.1, (setOther X u _ (by omega)).trans hs.2.1, (setOther X u _ (Nat.le_refl _)).trans hs.2.2⟩) ?_ ⟨start, rec1, def1⟩).mono ?_
  · rintro pre x X ⟨hi, hl, hk⟩ hlen
    have hy := run_yield (P := P) (args := encs x) hl (by rw [hR]; exact hps x)
    rw [hR] at hy
    refine ⟨fn, _, assign, body, hy, roundIn_of_wpIn hfn (hassign _ pre x X _ hi fun a' Y hky hpy hiy hay => ?_)⟩
    have hl1 := hky.same _ _ (by omega) hl rfl
    have hk1 := hky.same _ _ (Nat.le_refl _) hk rfl
    have hlt := (Array.getElem?_eq_some_iff.1 hl1).1
    refine ⟨_, run_beginRound hl1 (by rw [hR]), ?_⟩
    obtain ⟨Z, hZ⟩ : ∃ Z, Z = Y.putObj (w.heap.size + 1) (.loop { R .ready with state := .busy }) := ⟨_, rfl⟩
    have hl2 : Z.heap[w.heap.size + 1]? = some (.loop { R .ready with state := .busy }) := by rw [hZ]; exact World.putObj_heap_same hlt
    have hk2 : Z.heap[w.heap.size]? = some (.deferred (some [])) := by rw [hZ]; exact (World.putObj_heap_other (by omega)).trans hk1
    have hp2 : Kp Y Z := by rw [hZ]; exact hKb _ _ _ _ (by omega) hl1 rfl rfl
    have hi2 : I pre Z := by rw [hZ]; exact hI.putObj _ hiy (by omega) hl1 rfl
    have ha2 : Ax x a' Z := by rw [hZ]; exact (hAx x a').putObj (s := ()) _ hay (by omega) hl1 rfl
    rw [← hZ]
    refine wpIn_mono (hbody _ pre x a' Z hi2 ha2 hlen) fun e a3 V hp => ?_
    cases e with
    | normal =>
      obtain ⟨hk3, hp3, hi3⟩ := hp
      have hl3 := hk3.same _ _ (by omega) hl2 rfl
      have hd3 := hk3.same _ _ (Nat.le_refl _) hk2 rfl
      have hr := run_endRound (P := P) none hl3
      rw [hR] at hr hl3 ⊢
      exact ⟨_, _, hr, rfl, ⟨hI.putObj _ hi3 (by omega) hl3 rfl, World.putObj_heap_same (Array.getElem?_eq_some_iff.1 hl3).1, (World.putObj_heap_other (by omega)).trans hd3⟩,
        hKt hpy (hKt (hKt hp2 hp3) (hKb _ _ _ _ (by omega) hl3 rfl rfl))⟩
    | ret => exact hp.2.elim
    | exit id => exact hp.2.elim
    | goto t => exact hp.2.elim
    | panic ch => exact hp.elim
    | outgrown => exact hp.elim
  · rintro e V ⟨⟨v, rfl⟩, xs, hS, hi, hl, hk⟩
    have hr := run_endLoop (P := P) hl (by rw [hR]; simp)
    rw [hR] at hr hl
    exact ⟨none, _, hr, hdone _ xs _ (Nat.le_refl _) hS (hI.putObj _ hi (by omega) hl rfl) ((World.putObj_heap_other (by omega)).trans hk)⟩
end
end Go.Proofs.YthlecmmngldodaaDoor
