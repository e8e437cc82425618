/- Package hash: up. Package hash: Root. Package hash: Proof. Package hash: Check. -/
import Derived.Test.YtfdhiilhjfbehaaDoorH3
import Derived.Test.YtfdhiilhjfbehaaDoorH1
namespace Go.Proofs.YtfdhiilhjfbehaaDoor
section
open Go.RowKit Go.Shelf

attribute [local go_sem] Oper.semAt_some

def z32 : Sum32 := ⟨List.replicate 32 0, rfl⟩
def upAt (xs : List Sum32) (k : Nat) : Sum32 := if 2 * k + 1 < xs.length then pairS (xs.getD (2 * k) z32) (xs.getD (2 * k + 1) z32) else xs.getD (2 * k) z32
def upL (xs : List Sum32) : List Sum32 := (List.range ((xs.length + 1) / 2)).map (upAt xs)
theorem upL_length (xs : List Sum32) : (upL xs).length = (xs.length + 1) / 2 := by simp [upL]

theorem chunk_in (n : Nat) (A : Option Addr) (len cap : Nat) (w : World) :
    CallsIn Fence.wide n Tryd.prog 62 #[.slice A len cap, .int .i64 2] w fun e w' =>
      e = .returned (.func (.func 69) #[] #[.pointer (some ⟨w.heap.size, 0, none⟩), .pointer (some ⟨w.heap.size + 1, 0, none⟩)]) ∧
      w' = (w.alloc (.cells #[.slice A len cap] 35)).alloc (.cells #[.int .i64 2] 3) := by
  refine callsIn_of_wp Tryd.func62 rfl trivial ?_ rfl
  simp only [Tryd.ntmps62, List.size_toArray, List.length_cons, List.length_nil, Nat.reduceAdd, Nat.reduceSub, Array.replicate_succ, Array.replicate_zero, List.push_toArray, List.append_toArray, List.nil_append, List.cons_append]
  gi_wp2
  go_ret
  exact ⟨rfl, rfl⟩

theorem Rd.lt {w : World} {sz n : Nat} {A : Option Addr} {xs : List Value} (h : Rd w sz A n xs) (hsz : 0 < sz) (hn : 0 < n) {b off : Nat} (hA : A = some ⟨b, off, none⟩) : b < w.heap.size := by
  obtain ⟨b', off', e, hc⟩ := h.2.2 hn
  rw [hA] at e
  cases e
  have hl : 0 < xs.length := by rw [h.1]; exact Nat.mul_pos hn hsz
  exact World.block_lt_of_cell? w ⟨b, off + 0, none⟩ (hc 0 xs[0] (List.getElem?_eq_getElem hl))
/-- A range of a slice of hashes. -/
theorem Rd.range32 {w : World} {b off n k : Nat} {xs : List Sum32} (h : Rd w 32 (some ⟨b, off, none⟩) n (xs.flatMap sumC)) (hk : k < n) : w.rangeAt b (off + k * 32) (sumC (xs.getD k z32)) := by
  obtain ⟨b', off', x, e, hx, hc⟩ := h.flat_ sumC_len (by omega) hk
  cases e
  intro j v hv
  rw [List.getD_eq_getElem?_getD, hx] at hv
  rw [Nat.add_assoc]
  exact hc j v hv

/-- A slice of one element of several cells, as one operation. -/
theorem step_build1 {P : Program} {ops : Array Oper} {Q : Exit → Act → World → Prop} {o : Oper} {a : Act} {w : World} {K : Act → World → Prop} {E : Prop} (hg : o.guard = none) (t e : TypeId) (x : Operand) (ho : o.op = .buildSlice t 1 #[(0, x)])
    (cells : Array Value) (ie : TypeInfo) (z : Value) (s : Nat) (hu : P.underlying t = some (.slice e)) (hie : P.info? e = some ie) (hz : ie.zero = some z) (hs : ie.size = s) (hpos : 0 < s) (hsm : s ≤ 2 ^ 24)
    (hx : a.eval x = .agg cells) (hc : cells.size = s)
    (h : K (a.put o.dst (.slice (some ⟨w.heap.size, 0, none⟩) 1 1)) (w.alloc (.cells cells e))) : if Region.wanted o (yielded ops a.tmps) = true then Oper.wp P o a w K Q else E := by
  have hw : Region.wanted o (yielded ops a.tmps) = true := by simp [Region.wanted, hg]
  rw [if_pos hw]
  subst hs
  refine wp_buildSlice t e 1 _ ho cells ie z hu hie hz (by omega) (by omega) ?_ h
  have := Great.fill_whole hpos [.agg cells] ((Array.range (1 * ie.size)).map (z.cells[· % z.cells.size]!)) (by simp [Value.cells, hc]) (by simp)
  simpa [hx, Value.cells] using this

set_option maxRecDepth 100000 in
set_option maxHeartbeats 1000000 in
theorem up_in (n : Nat) (hn : 3 ≤ n) (b off len cap : Nat) (xs : List Sum32) (w : World) (hg : Globs w) (hr : Rd w 32 (some ⟨b, off, none⟩) len (xs.flatMap sumC)) (h1 : 0 < len) (hlen : len ≤ 1000000) (hcap : len ≤ cap) :
    CallsIn Fence.wide n Tryd.prog 52 #[.slice (some ⟨b, off, none⟩) len cap] w fun e w' => ∃ A' c', e = .returned (.slice A' ((len + 1) / 2) c') ∧ (len + 1) / 2 ≤ c' ∧ Rd w' 32 A' ((len + 1) / 2) ((upL xs).flatMap sumC) ∧ Below w.heap.size w w' ∧ ∀ b off, A' = some ⟨b, off, none⟩ → w.heap.size ≤ b := by
  have h1n : 1 ≤ n := by omega
  have hxl := hr.lenf sumC_len (by omega)
  have hbs : b < w.heap.size := hr.lt (by omega) h1 rfl
  obtain ⟨i0, hi0, hz0, hz1, hz2⟩ := info_parts info32
  refine callsIn_of_wp_marks Tryd.func52 rfl trivial ?_ rfl
  simp only [Tryd.ntmps52, List.size_toArray, List.length_cons, List.length_nil, Nat.reduceAdd, Nat.reduceSub, Array.replicate_succ, Array.replicate_zero, List.push_toArray, List.append_toArray, List.nil_append, List.cons_append]
  gi_wp2_with (refine ⟨trivial, ?_⟩; gi_at_call 62; refine (chunk_in (n - 1) _ _ _ _).mono ?_; rintro e w' ⟨rfl, rfl⟩)
  have bO := ((Boxed.new w 35 (.slice none 0 0)).alloc (.cells #[.slice (some ⟨b, off, none⟩) len cap] 35)).alloc (.cells #[.int .i64 2] 3)
  have bA := (Boxed.new (w.alloc (.cells #[.slice none 0 0] 35)) 35 (.slice (some ⟨b, off, none⟩) len cap)).alloc (.cells #[.int .i64 2] 3)
  have b2 := Boxed.new ((w.alloc (.cells #[.slice none 0 0] 35)).alloc (.cells #[.slice (some ⟨b, off, none⟩) len cap] 35)) 3 (.int .i64 2)
  simp only [World.size_alloc] at bO bA b2
  have hB0 : Below w.heap.size w (((w.alloc (.cells #[.slice none 0 0] 35)).alloc (.cells #[.slice (some ⟨b, off, none⟩) len cap] 35)).alloc (.cells #[.int .i64 2] 3)) :=
    (((Below.refl _ w).alloc (Nat.le_refl _) _).alloc (by simp) _).alloc (by simp; omega) _
  have hsz : (((w.alloc (.cells #[.slice none 0 0] 35)).alloc (.cells #[.slice (some ⟨b, off, none⟩) len cap] 35)).alloc (.cells #[.int .i64 2] 3)).heap.size = w.heap.size + 3 := by simp
  obtain ⟨W0, hW0⟩ : ∃ W0, ((w.alloc (.cells #[.slice none 0 0] 35)).alloc (.cells #[.slice (some ⟨b, off, none⟩) len cap] 35)).alloc (.cells #[.int .i64 2] 3) = W0 := ⟨_, rfl⟩
  rw [hW0] at bO bA b2 hB0 hsz ⊢
  clear hW0
  have hS : ∀ k, (k < W0.heap.size ∧ k ≠ w.heap.size) → k < W0.heap.size := fun k hk => hk.1
  refine wpIn_rangeFunc_ownH rfl h1n (gf := 69) (lb := #[.pointer (some ⟨w.heap.size + 1, 0, none⟩), .pointer (some ⟨w.heap.size + 1 + 1, 0, none⟩)]) rfl trivial (enters_of Tryd.func69 (by kernel_rfl) rfl)
    (chunk_stops (n - 1) (by omega) (w.heap.size + 1) (w.heap.size + 1 + 1) (fun k => k < W0.heap.size ∧ k ≠ w.heap.size) b off len cap hlen hcap W0 bA.cell b2.cell ⟨by omega, by omega⟩ ⟨by omega, by omega⟩)
    keptK_t (keptK_b hS) (Below.refl _ _) (fun _ => rfl)
    (fun pre W => (∃ v, Boxed W w.heap.size 35 v ∧ W.ownsRow W0.heap.size 26 32 v pre.length (pre.flatMap (fun x => sumC (upAt xs x.1))) ∧ True) ∧ KeptIn (fun k => k < W0.heap.size ∧ k ≠ w.heap.size) W0 W)
    (fun _ _ _ => False)
    (OwnFrom.and (Own.from (holdsRow_own W0.heap.size w.heap.size 35 26 32 (fun (pre : List (Pc len)) => pre.length) (fun pre => pre.flatMap (fun x => sumC (upAt xs x.1))) (fun _ _ => True)) _) (ownFrom_keptIn hS hS))
    (fun _ _ _ _ _ hs _ _ => hs)
    ⟨⟨_, bO, World.ownsRow_nil _ _ _ _, trivial⟩, KeptIn.refl _ _⟩
    (fun x a' _ => a' = { tmps := #[.slice (some ⟨b, off, none⟩) len cap, undef, .slice none 0 0, .pointer (some ⟨w.heap.size, 0, none⟩), pcV b off len x, .slice (some ⟨b, off, none⟩) len cap, .func (.func 69) #[] #[.pointer (some ⟨w.heap.size + 1, 0, none⟩), .pointer (some ⟨w.heap.size + 1 + 1, 0, none⟩)], pcV b off len x, undef, undef, undef, undef, undef, undef, undef, undef, undef, undef, undef, undef, undef, undef, undef, undef, undef, undef, undef, undef], defers := [] })
    (fun x a' _ X Y row hs hg hr => hs)
    ?assign ?body ?done ?stop
  case assign =>
    rintro l pre x W K ⟨⟨v, bv, hrow, _⟩, hK0⟩ hK
    gi_wp2
    exact hK _ _ (KeepsFrom.refl _ _) (KeptIn.refl _ W) ⟨⟨v, bv, hrow, trivial⟩, hK0⟩ rfl
  case body =>
    rintro l pre x a' W hl ⟨r, hr0⟩ ⟨⟨v, bv, hrow, _⟩, hK0⟩ rfl hlt
    obtain ⟨k, hk⟩ := x
    have hsW := hK0.size
    have hrW : Rd W 32 (some ⟨b, off, none⟩) len (xs.flatMap sumC) := (hr.below hB0).keptIn hK0 (fun b' off' _ e => by cases e; exact ⟨by omega, by omega⟩)
    have hgW : Globs W := hg.keep (fun p v hp => by have hlt := World.block_lt_of_cell? w p hp; exact ((hK0.cell (p := p) ⟨by omega, by omega⟩).trans (hB0.cell hlt)).trans hp)
    have cv := bv.cell
    by_cases hk2 : 2 * k + 1 < len
    · have hpn : pcN len k = 2 := by unfold pcN; omega
      have hua : upAt xs k = pairS (xs.getD (2 * k) z32) (xs.getD (2 * k + 1) z32) := by unfold upAt; rw [if_pos (by omega)]
      have hx0 := hrW.range32 (k := 2 * k) (by omega)
      have hx1 := hrW.range32 (k := 2 * k + 1) (by omega)
      unfold pcV
      dsimp only
      rw [hpn]
      generalize xs.getD (2 * k) z32 = x0 at *
      generalize xs.getD (2 * k + 1) z32 = x1 at *
      have hp0 := x0.2
      have hp1 := x1.2
      have hpl := pair_length x0.1 x1.1
      have hc := hS W0.heap.size
      gi_wp2
      refine round_region_reads_tail 9 [0, 1, 2, 3, 4, 5, 6] 2 (by kernel_rfl) (by kernel_rfl) (by repeat (first | exact letsOut_own | refine letsOut_then ?_ | refine letsOut_block ?_)) (List.take_append_drop _ _) rfl (by kernel_rfl) (by kernel_rfl) (by kernel_rfl) (by decide) (by kernel_rfl) (by kernel_rfl) (fun _ _ d _ _ h => by cases d <;> exact h) (by kernel_rfl) (by kernel_rfl) rfl ?_
      simp only [List.take_succ_cons, List.take_zero, List.drop_succ_cons, List.drop_zero, pickOps, List.getElem?_cons_zero, List.getElem?_cons_succ]
      have k5 := cell_regrown cv
      have hx0' : ∀ w', Ext W w' → w'.rangeAt b (off + 2 * k * 32) (sumC x0) := fun w' hw' j v hv => ((ext_below hw').cell (World.block_lt_of_cell? W _ (hx0 j v hv))).trans (hx0 j v hv)
      have hx1' : ∀ w', Ext W w' → w'.rangeAt b (off + 2 * k * 32 + 32) (sumC x1) := fun w' hw' j v hv => by
        have := hx1 j v hv
        rw [show off + (2 * k + 1) * 32 + j = off + 2 * k * 32 + 32 + j from by omega] at this
        exact ((ext_below hw').cell (World.block_lt_of_cell? W _ this)).trans this
      repeat (first | go_big_quiet_step (fail) | (refine wpQuiet_load_mid rfl 26 _ rfl b _ rfl (sumC x0) _ hx0' und32 rfl (by rw [sumC_len]; kernel_rfl) ?_; simp only [Act.put, List.setIfInBounds_toArray, List.set_cons_succ, List.set_cons_zero]) | (refine wpQuiet_load_mid rfl 26 _ rfl b _ rfl (sumC x1) _ hx1' und32 rfl (by rw [sumC_len]; kernel_rfl) ?_; simp only [Act.put, List.setIfInBounds_toArray, List.set_cons_succ, List.set_cons_zero]))
      refine wpQuiet_nil ?_
      refine wpAnyH_one (i := 7) (by kernel_rfl) rfl ?_
      intro K hK
      go_simp
      have hpair := Pair_any x0.1 x1.1 hp0 hp1 W.drew (hgW.below (Below.refl _ W).drew)
      have Hpair := Lib.hid hpair
      clear hpair
      unfold sumC
      refine Hpair.out.mono ?_
      rintro e W1 ⟨rfl, hb1⟩
      have hB1 : Below W.heap.size W W1 := (Below.refl _ W).drew.trans hb1
      refine hK _ _ (ext_of hB1) ?_
      clear hK K
      refine wpAnyH_one (i := 8) (by kernel_rfl) rfl ?_
      intro K hK
      refine step_build1 rfl 35 26 (.tmp 18) rfl _ i0 _ 32 Tryd.underlying35 hi0 hz0 hz1 (by omega) (by omega) rfl (sumV_size hpl) ?_
      refine hK _ _ (ext_of (hB1.alloc hB1.size _)) ?_
      clear hK K
      refine wpAnyH_done (by kernel_rfl) ?_ _
      have hrowW : W1.ownsRow W0.heap.size 26 32 v pre.length (pre.flatMap (fun x => sumC (upAt xs x.1))) := hrow.kept (⟨hB1.os, hB1.tape, hB1.output, hB1.size, fun k hk _ => hB1.block k hk⟩ : W.grownBy W1 none) (by cases v.ownBlock <;> simp)
      have hrow1 : (W1.alloc (.cells ((pair x0.1 x1.1).map byteV).toArray 26)).ownsRow W0.heap.size 26 32 v pre.length (pre.flatMap (fun x => sumC (upAt xs x.1))) := hrowW.alloc _
      have bv1 : Boxed W1 w.heap.size 35 v := Blk.below bv hB1 (by omega)
      have hs1 := hB1.size
      simp only [Exit.then]
      refine wpList_append_own _ rfl (.tmp 11) (.tmp 19) 35 rfl W0.heap.size 26 i0 (.agg zero32) 32 32 Tryd.underlying35 hi0 hz0 hz1 hz2 rfl (by decide) v _ _ rfl hrow1 ⟨W1.heap.size, 0, none⟩ 1 1 ((pair x0.1 x1.1).map byteV) rfl (by rw [List.length_map, hpl]) (cells_new _ _ _) (oneB _) (by unfold maxLen; omega) (by omega) (by simp; omega) ?_
      intro v' w1 hown' hgrow _
      obtain ⟨g', cap', rfl⟩ := ownsRow_succ hown'
      obtain ⟨hv1, hv2, hr2, hk2', hb2⟩ := boxed_append bv1 hrowW (by omega) (by omega) hown' hgrow
      refine wpList_store_one rfl 35 (.tmp 3) (.tmp 20) rfl w.heap.size rfl rfl 35 v hv1 (by kernel_rfl) ?_
      have hset : w1.setRow w.heap.size #[.slice (some ⟨g', 0, none⟩) (pre.length + 1) cap'] = w1.setCell ⟨w.heap.size, 0, none⟩ (.slice (some ⟨g', 0, none⟩) (pre.length + 1) cap') := (setCell_eq_setRow w1 w.heap.size 0 _ 35 (0, 0) _ hv1).symm
      refine wpList_nil ?_
      rw [show (Act.eval _ (Operand.tmp 20)) = Value.slice (some ⟨g', 0, none⟩) (pre.length + 1) cap' from rfl, hset]
      have hfin : KeptIn (fun k => k < W0.heap.size ∧ k ≠ w.heap.size) W (w1.setCell ⟨w.heap.size, 0, none⟩ (.slice (some ⟨g', 0, none⟩) (pre.length + 1) cap')) := (KeptIn.of_below hB1 (fun k hk => by omega)).trans hb2
      gi_wp2
      refine ⟨((KeepsOthers.of_grownBy (⟨hB1.os, hB1.tape, hB1.output, hB1.size, fun k hk _ => hB1.block k hk⟩ : W.grownBy W1 none) (fun _ _ e => by cases e)).trans hk2').from _, hfin, ⟨_, hv2, ?_, trivial⟩, hK0.trans hfin⟩
      rw [List.length_append, List.flatMap_append, List.flatMap_cons, List.flatMap_nil, List.append_nil, hua]
      exact hr2
    · have hpn : pcN len k = 1 := by unfold pcN; omega
      have hua : upAt xs k = xs.getD (2 * k) z32 := by unfold upAt; rw [if_neg (by omega)]
      have hx0 := hrW.range32 (k := 2 * k) (by omega)
      unfold pcV
      dsimp only
      rw [hpn]
      generalize xs.getD (2 * k) z32 = x0 at *
      have hp0 := x0.2
      gi_wp2
      refine round_region_reads_tail 5 [0, 1, 2, 3] 1 (by kernel_rfl) (by kernel_rfl) (by repeat (first | exact letsOut_own | refine letsOut_then ?_ | refine letsOut_block ?_)) (List.take_append_drop _ _) rfl (by kernel_rfl) (by kernel_rfl) (by kernel_rfl) (by decide) (by kernel_rfl) (by kernel_rfl) (fun _ _ d _ _ h => by cases d <;> exact h) (by kernel_rfl) (by kernel_rfl) rfl ?_
      simp only [List.take_succ_cons, List.take_zero, List.drop_succ_cons, List.drop_zero, pickOps, List.getElem?_cons_zero, List.getElem?_cons_succ]
      have k5 := cell_regrown cv
      have hx0' : ∀ w', Ext W w' → w'.rangeAt b (off + 2 * k * 32) (sumC x0) := fun w' hw' j v hv => ((ext_below hw').cell (World.block_lt_of_cell? W _ (hx0 j v hv))).trans (hx0 j v hv)
      repeat (first | go_big_quiet_step (fail) | (refine wpQuiet_load_mid rfl 26 _ rfl b _ rfl (sumC x0) _ hx0' und32 rfl (by rw [sumC_len]; kernel_rfl) ?_; simp only [Act.put, List.setIfInBounds_toArray, List.set_cons_succ, List.set_cons_zero]))
      refine wpQuiet_nil ?_
      refine wpAnyH_one (i := 4) (by kernel_rfl) rfl ?_
      intro K hK
      refine step_build1 rfl 35 26 (.tmp 24) rfl _ i0 _ 32 Tryd.underlying35 hi0 hz0 hz1 (by omega) (by omega) rfl (sumV_size hp0) ?_
      have hB1 : Below W.heap.size W W.drew := (Below.refl _ W).drew
      refine hK _ _ (ext_of (hB1.alloc hB1.size _)) ?_
      clear hK K
      refine wpAnyH_done (by kernel_rfl) ?_ _
      have hrowW : W.drew.ownsRow W0.heap.size 26 32 v pre.length (pre.flatMap (fun x => sumC (upAt xs x.1))) := hrow
      have hrow1 : (W.drew.alloc (.cells (x0.1.map byteV).toArray 26)).ownsRow W0.heap.size 26 32 v pre.length (pre.flatMap (fun x => sumC (upAt xs x.1))) := hrowW.alloc _
      have bv1 : Boxed W.drew w.heap.size 35 v := bv
      have hs1 : W0.heap.size ≤ W.drew.heap.size := hsW
      simp only [Exit.then]
      refine wpList_append_own _ rfl (.tmp 21) (.tmp 25) 35 rfl W0.heap.size 26 i0 (.agg zero32) 32 32 Tryd.underlying35 hi0 hz0 hz1 hz2 rfl (by decide) v _ _ rfl hrow1 ⟨W.drew.heap.size, 0, none⟩ 1 1 (x0.1.map byteV) rfl (by rw [List.length_map, hp0]) (cells_new _ _ _) (oneB _) (by unfold maxLen; omega) (by omega) (by simp; omega) ?_
      intro v' w1 hown' hgrow _
      obtain ⟨g', cap', rfl⟩ := ownsRow_succ hown'
      obtain ⟨hv1, hv2, hr2, hk2', hb2⟩ := boxed_append bv1 hrowW (by omega) (by omega) hown' hgrow
      refine wpList_store_one rfl 35 (.tmp 3) (.tmp 26) rfl w.heap.size rfl rfl 35 v hv1 (by kernel_rfl) ?_
      have hset : w1.setRow w.heap.size #[.slice (some ⟨g', 0, none⟩) (pre.length + 1) cap'] = w1.setCell ⟨w.heap.size, 0, none⟩ (.slice (some ⟨g', 0, none⟩) (pre.length + 1) cap') := (setCell_eq_setRow w1 w.heap.size 0 _ 35 (0, 0) _ hv1).symm
      refine wpList_nil ?_
      rw [show (Act.eval _ (Operand.tmp 26)) = Value.slice (some ⟨g', 0, none⟩) (pre.length + 1) cap' from rfl, hset]
      have hfin : KeptIn (fun k => k < W0.heap.size ∧ k ≠ w.heap.size) W (w1.setCell ⟨w.heap.size, 0, none⟩ (.slice (some ⟨g', 0, none⟩) (pre.length + 1) cap')) := (KeptIn.of_below hB1 (fun k hk => by omega)).trans hb2
      gi_wp2
      refine ⟨((KeepsOthers.drew W).trans hk2').from _, hfin, ⟨_, hv2, ?_, trivial⟩, hK0.trans hfin⟩
      rw [List.length_append, List.flatMap_append, List.flatMap_cons, List.flatMap_nil, List.append_nil, hua]
      exact hr2
  case done =>
    rintro D ys W hD hys ⟨⟨v, bv, hrow, _⟩, hK0⟩ hK
    have Hys := Lib.hid hys
    clear hys
    have cv := bv.cell
    gi_wp2
    refine ⟨by simp, .inl ⟨_, _, rfl, run_takeDeferred hK, ?_⟩⟩
    obtain ⟨A', c', rfl⟩ := ownsRow_slice hrow
    have hyl : ys.length = (len + 1) / 2 := by have := congrArg List.length Hys.out; simpa using this
    have hcc := ownsRow_cap hrow
    have hfl : (upL xs).flatMap sumC = ys.flatMap (fun x => sumC (upAt xs x.1)) := by
      unfold upL
      rw [hxl, ← Hys.out, List.map_map, List.flatMap_map]
      rfl
    rw [hyl] at hrow hcc
    refine ⟨_, results_tmp rfl _ _ _, A', c', ?_, hcc, by rw [hfl]; exact Rd.of_own (ownsRow_putObj hrow _ hK rfl), ?_, fun b off e => by have := (hrow.lt b (by rw [e]; rfl)).1; omega⟩
    · simp [hyl]
    · exact hB0.trans (((hK0.below (B := w.heap.size) (fun k hk => ⟨by omega, by omega⟩)).mono (Nat.le_refl _)).trans (belowK_b (w := w) (Nat.le_refl _) W D _ _ (by omega) hK rfl rfl))
  case stop =>
    rintro D c pre W _ _ h _
    exact h.elim

theorem Up_any (b off len cap : Nat) (xs : List Sum32) (w : World) (hg : Globs w) (hr : Rd w 32 (some ⟨b, off, none⟩) len (xs.flatMap sumC)) (h1 : 0 < len) (hlen : len ≤ 1000000) (hcap : len ≤ cap) :
    Calls Tryd.prog 52 #[.slice (some ⟨b, off, none⟩) len cap] w fun e w' => ∃ A' c', e = .returned (.slice A' ((len + 1) / 2) c') ∧ (len + 1) / 2 ≤ c' ∧ Rd w' 32 A' ((len + 1) / 2) ((upL xs).flatMap sumC) ∧ Below w.heap.size w w' ∧ ∀ b off, A' = some ⟨b, off, none⟩ → w.heap.size ≤ b :=
  callsIn_wide.1 (up_in 3 (Nat.le_refl _) b off len cap xs w hg hr h1 hlen hcap)
end

section
open Go.RowKit

def rootF : Nat → List Sum32 → Sum32
  | 0, xs => xs.getD 0 z32
  | n + 1, xs => if xs.length ≤ 1 then xs.getD 0 z32 else rootF n (upL xs)
def rootL (xs : List Sum32) : Sum32 := rootF xs.length xs
theorem rootF_one : ∀ (n : Nat) (xs : List Sum32), xs.length ≤ 1 → rootF n xs = xs.getD 0 z32
  | 0, _, _ => rfl
  | n + 1, xs, h => by rw [rootF, if_pos h]
theorem rootF_fuel : ∀ (n m : Nat) (xs : List Sum32), xs.length ≤ n → xs.length ≤ m → rootF n xs = rootF m xs
  | 0, m, xs, h, _ => by rw [rootF_one m xs (by omega)]; rfl
  | n + 1, 0, xs, _, h => by rw [rootF_one (n + 1) xs (by omega)]; rfl
  | n + 1, m + 1, xs, h, h' => by
    by_cases h1 : xs.length ≤ 1
    · rw [rootF_one _ _ h1, rootF_one _ _ h1]
    · rw [rootF, rootF, if_neg h1, if_neg h1]
      exact rootF_fuel n m _ (by rw [upL_length]; omega) (by rw [upL_length]; omega)
theorem rootL_one (xs : List Sum32) (h : xs.length ≤ 1) : rootL xs = xs.getD 0 z32 := rootF_one _ _ h
theorem rootL_up (xs : List Sum32) (h : 1 < xs.length) : rootL xs = rootL (upL xs) := by
  unfold rootL
  rw [show xs.length = (xs.length - 1) + 1 from by omega, rootF, if_neg (by omega)]
  exact rootF_fuel _ _ _ (by rw [upL_length]; omega) (Nat.le_refl _)
def shaS (b : List UInt8) : Sum32 := ⟨sha b, sha_length b⟩
def root (cs : List (List UInt8)) : Sum32 := match cs with
  | [] => shaS []
  | c :: cs => rootL ((c :: cs).map leafS)

set_option maxRecDepth 100000 in
set_option maxHeartbeats 1000000 in
theorem Root_any (A : Option Addr) (len cap : Nat) (cs : List (List UInt8)) (w : World) (hg : Globs w) (hr : Lst w A len cs) (hlen : len ≤ 1000000) (hcs : ∀ c ∈ cs, c.length ≤ 8796093022000) :
    Calls Tryd.prog 28 #[.slice A len cap] w fun e w' => e = .returned (sumV (root cs).1) ∧ Below w.heap.size w w' := by
  have hl := hr.len
  go_enter Tryd.func28, Tryd.ntmps28
  go_upto_region 1 with fail
  obtain ⟨w1, hw1⟩ : ∃ w1, w1 = w.alloc (.cells zero32 26) := ⟨_, rfl⟩
  have hB1 : Below w.heap.size w w1 := by rw [hw1]; exact (Below.refl _ _).alloc (Nat.le_refl _) _
  have hs1 : w1.heap.size = w.heap.size + 1 := by rw [hw1]; simp
  have hO1 : Blk w1 w.heap.size 26 zero32 := by rw [hw1]; exact Blk.new _ _ _
  simp only [zero32, List.replicate_succ, List.replicate_zero] at hw1
  rw [← hw1]
  have hr1 := hr.below hB1
  have hg1 := hg.below hB1
  have HB1 := Lib.hid hB1
  have HO1 := Lib.hid hO1
  have Hs1 := Lib.hid hs1
  clear hw1 hg hr hB1 hO1 hs1
  cases cs with
  | nil =>
    obtain rfl : len = 0 := by simpa using hl.symm
    have hsum := Sum_any none 0 0 [] w1 hg1 (Rd.nil _ _ _) (by omega) (by omega)
    have hlf := sha_length []
    have Hsum := Lib.hid hsum
    clear hsum
    go_wp2_with fail
    refine Hsum.out.mono ?_
    rintro e w2 ⟨rfl, hb2⟩
    have hO2 : Blk w2 w.heap.size 26 zero32 := HO1.out.below hb2 (by have := Hs1.out; omega)
    have hB2 : Below w.heap.size w w2 := HB1.out.trans (hb2.mono (by have := Hs1.out; omega))
    have HO2 := Lib.hid hO2
    have HB2 := Lib.hid hB2
    clear hO2 hB2 hb2
    go_wp2_with (refine wpList_store_row rfl 26 (.tmp 2) (.tmp 7) rfl _ _ rfl rfl 26 _ HO2.out (size32 _ (sumV_size hlf)) ((zero32_size).trans (sumV_size hlf).symm) (all_oneCell_toArray (oneB _)) ?_)
    refine bodyPost_ret (results_cell_row rfl _ _ w.heap.size 26 _ (0, 0) _ rfl (setRow_heap _ _ _ _ _ _ HO2.out) und32 rfl (size32 _ (sumV_size hlf))) rfl ⟨rfl, Below.setRow HB2.out (Nat.le_refl _) _⟩
  | cons c cs =>
    have hlp : 0 < len := by simp at hl; omega
    have hlv := Leaves_any A len cap (c :: cs) w1 hg1 hr1 hlen hcs
    have hroot : root (c :: cs) = rootL ((c :: cs).map leafS) := rfl
    have hll : ((c :: cs).map leafS).length = len := by rw [List.length_map, hl]
    generalize (c :: cs).map leafS = ls at *
    have Hroot := Lib.hid hroot
    have Hlv := Lib.hid hlv
    have Hg1 := Lib.hid hg1
    clear hlv hr1 hcs hl hg1 hroot
    go_wp2_with fail
    refine Hlv.out.mono ?_
    rintro e w2 ⟨A2, c2, rfl, hc2, hrd2, hb2, _⟩
    have Hg2 := Lib.hid (Hg1.out.below hb2)
    have hO2 : Blk w2 w.heap.size 26 zero32 := HO1.out.below hb2 (by have := Hs1.out; omega)
    have hB2 : Below w.heap.size w w2 := HB1.out.trans (hb2.mono (by have := Hs1.out; omega))
    have hs2 : w.heap.size < w2.heap.size := hO2.lt
    have HO2 := Lib.hid hO2
    have HB2 := Lib.hid hB2
    clear hO2 hB2 hb2
    go_wp2_with fail
    go_loopw [3] (fun v wr => ∃ (n c' : Nat) (A' : Option Addr) (ys : List Sum32), v = .slice A' n c' ∧ n ≤ c' ∧ 0 < n ∧ n ≤ 1000000 ∧ Rd wr 32 A' n (ys.flatMap sumC) ∧ rootL ys = rootL ls ∧ Below w2.heap.size w2 wr) (fun v _ => slLen v)
    case atStart => exact ⟨len, c2, A2, ls, rfl, hc2, hlp, hlen, hrd2, rfl, Below.refl _ _⟩
    case round =>
      obtain ⟨n, c', A', ys, rfl, hnc, hn0, hn1, hrd, hro, hB⟩ := hrel
      clear hrd2
      have hyl := hrd.lenf sumC_len (by omega)
      obtain ⟨b, off, rfl, _⟩ := hrd.2.2 hn0
      by_cases h2 : 1 < n
      · have hup := Up_any b off n c' ys wr (Hg2.out.below hB) hrd hn0 hn1 hnc
        have hru := rootL_up ys (by omega)
        have Hup := Lib.hid hup
        have Hru := Lib.hid (hru.symm.trans hro)
        have HB := Lib.hid hB
        have hsz := hB.size
        clear hup hru hro hB hrd
        go_wp2_with fail
        refine Hup.out.mono ?_
        rintro e w3 ⟨A3, c3, rfl, hc3, hrd3, hb3, _⟩
        have Hr3 := Lib.hid hrd3
        clear hrd3
        go_wp2_with fail
        exact ⟨⟨(n + 1) / 2, c3, A3, upL ys, rfl, hc3, by omega, by omega, Hr3.out, Hru.out, HB.out.trans (hb3.mono hsz)⟩, by simp only [slLen]; omega⟩
      · obtain rfl : n = 1 := by omega
        have hx := hrd.range32 (k := 0) (by omega)
        rw [Nat.zero_mul, Nat.add_zero] at hx
        rw [rootL_one ys (by omega)] at hro
        rw [hro] at hx
        have hlf : (rootL ls).1.length = 32 := (rootL ls).2
        have hO3 : Blk wr w.heap.size 26 zero32 := HO2.out.below hB hs2
        have hB3 : Below w.heap.size w wr := HB2.out.trans (hB.mono (by omega))
        have HO3 := Lib.hid hO3
        have HB3 := Lib.hid hB3
        have Hx := Lib.hid hx
        have hroot := Hroot.out
        generalize rootL ls = rt at *
        have Hro2 := Lib.hid hroot
        clear hroot
        clear hO3 hB3 hB hrd hx
        go_wp2_with (first | (refine wpList_load_mid rfl 26 (.tmp 16) rfl b off rfl (sumC rt) _ Hx.out und32 rfl (by rw [sumC_len]; kernel_rfl) ?_) | (refine wpList_store_row rfl 26 (.tmp 2) (.tmp 17) rfl _ _ rfl rfl 26 _ HO3.out (size32 _ (sumV_size hlf)) ((zero32_size).trans (sumV_size hlf).symm) (all_oneCell_toArray (oneB _)) ?_))
        refine bodyPost_ret (results_cell_row rfl _ _ w.heap.size 26 _ (0, 0) _ rfl (setRow_heap _ _ _ _ _ _ HO3.out) und32 rfl (size32 _ (sumV_size hlf))) rfl ⟨by rw [Hro2.out]; rfl, Below.setRow HB3.out (Nat.le_refl _) _⟩
end

section
open Go.RowKit

def proofF : Nat → List Sum32 → Nat → List Sum32
  | 0, _, _ => []
  | n + 1, xs, i => if xs.length ≤ 1 then [] else (if i ^^^ 1 < xs.length then [xs.getD (i ^^^ 1) z32] else []) ++ proofF n (upL xs) (i / 2)
def proofL (xs : List Sum32) (i : Nat) : List Sum32 := proofF xs.length xs i
theorem proofF_one : ∀ (n : Nat) (xs : List Sum32) (i : Nat), xs.length ≤ 1 → proofF n xs i = []
  | 0, _, _, _ => rfl
  | n + 1, xs, i, h => by rw [proofF, if_pos h]
theorem proofF_fuel : ∀ (n m : Nat) (xs : List Sum32) (i : Nat), xs.length ≤ n → xs.length ≤ m → proofF n xs i = proofF m xs i
  | 0, m, xs, i, h, _ => by rw [proofF_one m xs i (by omega)]; rfl
  | n + 1, 0, xs, i, _, h => by rw [proofF_one (n + 1) xs i (by omega)]; rfl
  | n + 1, m + 1, xs, i, h, h' => by
    by_cases h1 : xs.length ≤ 1
    · rw [proofF_one _ _ _ h1, proofF_one _ _ _ h1]
    · rw [proofF, proofF, if_neg h1, if_neg h1]
      rw [proofF_fuel n m _ _ (by rw [upL_length]; omega) (by rw [upL_length]; omega)]
theorem proofL_one (xs : List Sum32) (i : Nat) (h : xs.length ≤ 1) : proofL xs i = [] := proofF_one _ _ _ h
theorem proofL_up (xs : List Sum32) (i : Nat) (h : 1 < xs.length) : proofL xs i = (if i ^^^ 1 < xs.length then [xs.getD (i ^^^ 1) z32] else []) ++ proofL (upL xs) (i / 2) := by
  unfold proofL
  rw [show xs.length = (xs.length - 1) + 1 from by omega, proofF, if_neg (by omega)]
  rw [show xs.length - 1 + 1 = xs.length from by omega, proofF_fuel (xs.length - 1) _ _ _ (by rw [upL_length]; omega) (Nat.le_refl _)]
theorem xor1_cases (i : Nat) : i ^^^ 1 = if i % 2 = 0 then i + 1 else i - 1 := by
  have h1 : (i ^^^ 1) / 2 = i / 2 := by
    have := Nat.xor_div_two (a := i) (b := 1)
    simpa using this
  have h2 := Nat.xor_mod_two_eq_one (a := i) (b := 1)
  have h3 : (i ^^^ 1) = 2 * ((i ^^^ 1) / 2) + (i ^^^ 1) % 2 := by omega
  split <;> omega
theorem i64_xor1 (k : Nat) (h : k < 9223372036854775807) : bits .xor .i64 (k : Int) 1 = ((k ^^^ 1 : Nat) : Int) := by
  have hc := xor1_cases k
  have hx : k ^^^ 1 < 9223372036854775808 := by split at hc <;> omega
  show IntKind.i64.wrap ((BitVec.ofInt 64 (k : Int) ^^^ BitVec.ofInt 64 ((1 : Nat) : Int)).toNat : Int) = _
  rw [BitVec.toNat_xor, ofInt_u64 k (by omega), ofInt_u64 1 (by omega), IntKind.wrap_i64]
  omega

theorem Rd.kept {w w' : World} {sz n : Nat} {A : Option Addr} {xs : List Value} {row : Option Nat} (h : Rd w sz A n xs) (hg : w.grownBy w' row) (hsz : 0 < sz) (hS : ∀ b off, 0 < n → A = some ⟨b, off, none⟩ → some b ≠ row) : Rd w' sz A n xs :=
  h.keptIn (S := fun k => k < w.heap.size ∧ some k ≠ row) ⟨hg.os, hg.tape, hg.output, hg.size, fun k hk => hg.block k hk.1 hk.2⟩ (fun b off hn e => ⟨h.lt hsz hn e, hS b off hn e⟩)
theorem grown_of_below {w w' : World} (hb : Below w.heap.size w w') : w.grownBy w' none := ⟨hb.os, hb.tape, hb.output, hb.size, fun k hk _ => hb.block k hk⟩
theorem grownBy_of_alloc {w w' : World} {o : Obj} {row : Option Nat} (h : (w.alloc o).grownBy w' row) : w.grownBy w' row :=
  ⟨h.os, h.tape, h.output, by have := h.size; simp at this; omega, fun k hk hne => (h.block k (by simp; omega) hne).trans (Below.heap_alloc w o k hk)⟩
theorem ownsRow_below {w w' : World} {base : Nat} {e : TypeId} {sz n : Nat} {v : Value} {xs : List Value} (h : w.ownsRow base e sz v n xs) (hb : Below w.heap.size w w') : w'.ownsRow base e sz v n xs :=
  h.kept (grown_of_below hb) (by cases v.ownBlock <;> simp)

set_option maxRecDepth 100000 in
set_option maxHeartbeats 1000000 in
theorem Proof_bad (A : Option Addr) (len cap : Nat) (i : Int) (hi : i < 0 ∨ (len : Int) ≤ i) (w : World) (_hl : len ≤ 9223372036854775807) :
    Calls Tryd.prog 27 #[.slice A len cap, .int .i64 i] w fun e w' => e = .returned (.tuple #[.slice none 0 0, .int .i64 1]) ∧ w' = w := by
  go_enter Tryd.func27, Tryd.ntmps27
  by_cases h0 : i < 0
  · go_wp2
    go_ret2
    exact ⟨rfl, rfl⟩
  · have h1 : (len : Int) ≤ i := by omega
    clear hi
    go_wp2
    go_ret2
    exact ⟨rfl, rfl⟩

set_option maxRecDepth 100000 in
set_option maxHeartbeats 1000000 in
theorem Proof_own (A : Option Addr) (len cap i : Nat) (cs : List (List UInt8)) (w : World) (hg : Globs w) (hr : Lst w A len cs) (hlen : len ≤ 1000000) (hcs : ∀ c ∈ cs, c.length ≤ 8796093022000) (hi : i < len) :
    Calls Tryd.prog 27 #[.slice A len cap, .int .i64 (i : Int)] w fun e w' => ∃ A' n' c', e = .returned (.tuple #[.slice A' n' c', .int .i64 0]) ∧ n' ≤ c' ∧ w'.ownsRow w.heap.size 26 32 (.slice A' n' c') n' ((proofL (cs.map leafS) i).flatMap sumC) ∧ Below w.heap.size w w' := by
  obtain ⟨i0, hi0, hz0, hz1, hz2⟩ := info_parts info32
  have hl := hr.len
  have hlv := Leaves_any A len cap cs w hg hr hlen hcs
  have hll : (cs.map leafS).length = len := by rw [List.length_map, hl]
  obtain ⟨tgt, htgt⟩ : ∃ t, proofL (cs.map leafS) i = t := ⟨_, rfl⟩
  rw [htgt]
  generalize cs.map leafS = ls at *
  have Htg := Lib.hid htgt
  have Hlv := Lib.hid hlv
  have Hg := Lib.hid hg
  clear hlv hr hcs hl hg htgt
  go_enter Tryd.func27, Tryd.ntmps27
  go_wp2_with fail
  refine Hlv.out.mono ?_
  rintro e w2 ⟨A2, c2, rfl, hc2, hrd2, hb2, hnew2⟩
  have hown := World.ownsRow_nil w2 w.heap.size 26 32
  have HB2 := Lib.hid hb2
  clear hb2
  go_wp2_with fail
  go_loopw [1, 6, 7, 8] (fun vi vo vl _ wr => ∃ (k n c' : Nat) (A' : Option Addr) (ys out : List Sum32), vi = .int .i64 (k : Int) ∧ vl = .slice A' n c' ∧ n ≤ c' ∧ k < n ∧ out.length + n ≤ len ∧ Rd wr 32 A' n (ys.flatMap sumC) ∧ wr.ownsRow w.heap.size 26 32 vo out.length (out.flatMap sumC) ∧ out ++ proofL ys k = tgt ∧ Below w.heap.size w wr ∧ (∀ b off, A' = some ⟨b, off, none⟩ → vo.ownBlock ≠ some b)) (fun _ _ v _ _ => slLen v)
  case atStart => exact ⟨i, len, c2, A2, ls, [], rfl, rfl, hc2, hi, by simp, hrd2, hown, by simpa using Htg.out, HB2.out, fun _ _ _ => by simp [Value.ownBlock]⟩
  case round =>
    obtain ⟨k, n, c', A', ys, out, rfl, rfl, hnc, hkn, hon, hrd, hrow, hpr, hB, hne⟩ := hrel
    clear hrd2
    have hyl := hrd.lenf sumC_len (by omega)
    obtain ⟨b, off, rfl, _⟩ := hrd.2.2 (by omega)
    by_cases h2 : 1 < n
    · have hpu := proofL_up ys k (by omega)
      have hxor := i64_xor1 k (by omega)
      have hrng : ∀ j, j < n → wr.rangeAt b (off + j * 32) (sumC (ys.getD j z32)) := fun j hj => hrd.range32 hj
      have hne := hne b off rfl
      have hup : ∀ w3, wr.grownBy w3 u6.ownBlock → Below w.heap.size w w3 → _ := fun w3 hg3 hb3 => Up_any b off n c' ys w3 (Hg.out.below hb3) (hrd.kept hg3 (by omega) (fun b' off' _ e => by cases e; exact fun e' => hne e'.symm)) (by omega) (by omega) hnc
      have HB := Lib.hid hB
      have hsz := hB.size
      rw [hyl] at hpu
      have Hrow := Lib.hid hrow
      have Hpr := Lib.hid hpr
      have Hup := Lib.hid hup
      have Hrng := Lib.hid hrng
      by_cases hx : k ^^^ 1 < n
      · rw [if_pos hx] at hpu
        generalize k ^^^ 1 = q at *
        have Hpu := Lib.hid hpu
        have hq := hrng q hx
        have hh : (ys.getD q z32).1.length = 32 := (ys.getD q z32).2
        have Hq := Lib.hid hq
        clear hrng hup hB hrow hpr hpu hq hrd
        generalize ys.getD q z32 = x at *
        go_wp2_with (first | (refine wpList_load_mid rfl 26 (.tmp 33) rfl b _ rfl (sumC x) _ Hq.out und32 rfl (by rw [sumC_len]; kernel_rfl) ?_) | (refine wpList_build1 rfl 35 26 (.tmp 34) rfl _ i0 _ 32 Tryd.underlying35 hi0 hz0 hz1 (by omega) (by omega) rfl (sumV_size hh) ?_) | (at_builtin; refine wpList_append_own _ rfl (.tmp 30) (.tmp 35) 35 rfl w.heap.size 26 i0 (.agg zero32) 32 32 Tryd.underlying35 hi0 hz0 hz1 hz2 rfl (by decide) _ _ _ rfl (Hrow.out.alloc _) ⟨wr.heap.size, 0, none⟩ 1 1 (x.1.map byteV) rfl (by rw [List.length_map, hh]) (cells_new _ _ _) (oneB _) (by unfold maxLen; omega) (by omega) (by simp; omega) ?_; intro v' w3 hown' hgrow _))
        have hB3 : Below w.heap.size w w3 := (HB.out.alloc hsz _).grown hgrow (by simp; omega) (fun k' e' => ((Hrow.out.alloc (.cells (x.1.map byteV).toArray 26)).lt k' e').1)
        have Hown := Lib.hid hown'
        refine (Hup.out w3 (grownBy_of_alloc hgrow) hB3).mono ?_
        rintro e w4 ⟨A4, c4, rfl, hc4, hrd4, hb4, hnew4⟩
        have Hrd4 := Lib.hid hrd4
        have Hb4 := Lib.hid hb4
        have HB3 := Lib.hid hB3
        have hs3 := hB3.size
        clear hrd4 hb4 hown' hgrow hB3
        go_wp2_with fail
        refine ⟨⟨k / 2, (n + 1) / 2, c4, A4, upL ys, out ++ [x], by go_num, rfl, hc4, by omega, by rw [List.length_append, List.length_singleton]; omega, Hrd4.out, ?_, ?_, HB3.out.trans (Hb4.out.mono hs3), ?_⟩, by simp only [slLen]; omega⟩
        · rw [List.length_append, List.flatMap_append, List.flatMap_cons, List.flatMap_nil, List.append_nil]
          exact ownsRow_below Hown.out Hb4.out
        · rw [List.append_assoc, ← Hpu.out]; exact Hpr.out
        · intro b' off' e e'
          have := hnew4 b' off' e
          have := (Hown.out.lt b' e').2
          omega
      · rw [if_neg hx, List.nil_append] at hpu
        generalize k ^^^ 1 = q at *
        have Hpu := Lib.hid hpu
        clear hrng hup hB hrow hpr hpu hrd
        go_wp2_with fail
        refine (Hup.out wr ⟨rfl, rfl, rfl, Nat.le_refl _, fun _ _ _ => rfl⟩ HB.out).mono ?_
        rintro e w4 ⟨A4, c4, rfl, hc4, hrd4, hb4, hnew4⟩
        have Hrd4 := Lib.hid hrd4
        have Hb4 := Lib.hid hb4
        clear hrd4 hb4
        go_wp2_with fail
        refine ⟨⟨k / 2, (n + 1) / 2, c4, A4, upL ys, out, by go_num, rfl, hc4, by omega, by omega, Hrd4.out, ownsRow_below Hrow.out Hb4.out, by rw [← Hpu.out]; exact Hpr.out, HB.out.trans (Hb4.out.mono hsz), ?_⟩, by simp only [slLen]; omega⟩
        intro b' off' e e'
        have := hnew4 b' off' e
        have := (Hrow.out.lt b' e').2
        omega
    · obtain rfl : n = 1 := by omega
      rw [proofL_one ys k (by omega), List.append_nil] at hpr
      obtain ⟨Ao, co, rfl⟩ := ownsRow_slice hrow
      have hcc := ownsRow_cap hrow
      have Hrow := Lib.hid hrow
      have Hpr := Lib.hid hpr
      have HB := Lib.hid hB
      clear hrow hpr hB hrd
      go_wp2_with fail
      go_ret2
      exact ⟨Ao, _, co, rfl, hcc, by rw [← Hpr.out]; exact Hrow.out, HB.out⟩
theorem Proof_any (A : Option Addr) (len cap i : Nat) (cs : List (List UInt8)) (w : World) (hg : Globs w) (hr : Lst w A len cs) (hlen : len ≤ 1000000) (hcs : ∀ c ∈ cs, c.length ≤ 8796093022000) (hi : i < len) :
    Calls Tryd.prog 27 #[.slice A len cap, .int .i64 (i : Int)] w fun e w' => ∃ A' n' c', e = .returned (.tuple #[.slice A' n' c', .int .i64 0]) ∧ n' ≤ c' ∧ Rd w' 32 A' n' ((proofL (cs.map leafS) i).flatMap sumC) ∧ Below w.heap.size w w' :=
  (Proof_own A len cap i cs w hg hr hlen hcs hi).mono fun _ _ ⟨A', n', c', h1, h2, h3, h4⟩ => ⟨A', n', c', h1, h2, Rd.of_own h3, h4⟩
end

section
open Go.RowKit

instance : DecidableEq Sum32 := fun a b => if h : a.1 = b.1 then isTrue (Subtype.ext h) else isFalse (fun e => h (by rw [e]))
def chk : Nat → Nat → Nat → Sum32 → List Sum32 → Option Sum32
  | 0, _, _, x, p => if p = [] then some x else none
  | f + 1, n, i, x, p =>
    if n ≤ 1 then (if p = [] then some x else none)
    else if n ≤ i ^^^ 1 then chk f ((n + 1) / 2) (i / 2) x p
    else match p with
      | [] => none
      | h :: t => chk f ((n + 1) / 2) (i / 2) (if i % 2 = 1 then pairS h x else pairS x h) t
theorem chk_succ (f n i : Nat) (x : Sum32) (p : List Sum32) : chk (f + 1) n i x p = if n ≤ 1 then (if p = [] then some x else none)
    else if n ≤ i ^^^ 1 then chk f ((n + 1) / 2) (i / 2) x p
    else match p with
      | [] => none
      | h :: t => chk f ((n + 1) / 2) (i / 2) (if i % 2 = 1 then pairS h x else pairS x h) t := by
  cases p <;> rfl
theorem chk_one : ∀ (f n i : Nat) (x : Sum32) (p : List Sum32), n ≤ 1 → chk f n i x p = if p = [] then some x else none
  | 0, _, _, _, _, _ => rfl
  | f + 1, n, i, x, p, h => by rw [chk_succ, if_pos h]
theorem chk_fuel : ∀ (f g n i : Nat) (x : Sum32) (p : List Sum32), n ≤ f → n ≤ g → chk f n i x p = chk g n i x p
  | 0, g, n, i, x, p, h, _ => by rw [chk_one g n i x p (by omega)]; rfl
  | f + 1, 0, n, i, x, p, _, h => by rw [chk_one (f + 1) n i x p (by omega)]; rfl
  | f + 1, g + 1, n, i, x, p, h, h' => by
    by_cases h1 : n ≤ 1
    · rw [chk_one _ _ _ _ _ h1, chk_one _ _ _ _ _ h1]
    · rw [chk_succ, chk_succ, if_neg h1, if_neg h1]
      split
      · exact chk_fuel f g _ _ _ _ (by omega) (by omega)
      · cases p with
        | nil => rfl
        | cons a t => exact chk_fuel f g _ _ _ _ (by omega) (by omega)
def chkL (n i : Nat) (x : Sum32) (p : List Sum32) : Option Sum32 := chk n n i x p
theorem chkL_one (n i : Nat) (x : Sum32) (p : List Sum32) (h : n ≤ 1) : chkL n i x p = if p = [] then some x else none := chk_one _ _ _ _ _ h
theorem chkL_skip (n i : Nat) (x : Sum32) (p : List Sum32) (h : 1 < n) (hx : n ≤ i ^^^ 1) : chkL n i x p = chkL ((n + 1) / 2) (i / 2) x p := by
  unfold chkL
  rw [show chk n n i x p = chk ((n - 1) + 1) n i x p from by rw [show n - 1 + 1 = n from by omega], chk_succ, if_neg (by omega), if_pos hx]
  exact chk_fuel _ _ _ _ _ _ (by omega) (by omega)
theorem chkL_nil (n i : Nat) (x : Sum32) (h : 1 < n) (hx : ¬ n ≤ i ^^^ 1) : chkL n i x [] = none := by
  unfold chkL
  rw [show chk n n i x [] = chk ((n - 1) + 1) n i x [] from by rw [show n - 1 + 1 = n from by omega], chk_succ, if_neg (by omega), if_neg hx]
theorem chkL_cons (n i : Nat) (x a : Sum32) (t : List Sum32) (h : 1 < n) (hx : ¬ n ≤ i ^^^ 1) : chkL n i x (a :: t) = chkL ((n + 1) / 2) (i / 2) (if i % 2 = 1 then pairS a x else pairS x a) t := by
  unfold chkL
  rw [show chk n n i x (a :: t) = chk ((n - 1) + 1) n i x (a :: t) from by rw [show n - 1 + 1 = n from by omega], chk_succ, if_neg (by omega), if_neg hx]
  exact chk_fuel _ _ _ _ _ _ (by omega) (by omega)

theorem sumC_ints (x : Sum32) : sumC x = (x.1.map fun b => (b.toNat : Int)).map (Value.int .u8) := by
  unfold sumC byteV
  rw [List.map_map]
  rfl
theorem ints_inj (x y : Sum32) : (x.1.map fun b => (b.toNat : Int)) = (y.1.map fun b => (b.toNat : Int)) ↔ x = y := by
  constructor
  · intro h
    refine Subtype.ext ?_
    have hinj : ∀ (a b : List UInt8), a.map (fun b => (b.toNat : Int)) = b.map (fun b => (b.toNat : Int)) → a = b := by
      intro a
      induction a with
      | nil => intro b h; cases b with
        | nil => rfl
        | cons c d => simp at h
      | cons c d ih => intro b h; cases b with
        | nil => simp at h
        | cons c' d' =>
          simp only [List.map_cons, List.cons.injEq] at h
          obtain ⟨h1, h2⟩ := h
          have e1 : c = c' := UInt8.toNat_inj.1 (by omega)
          rw [ih d' h2, e1]
    exact hinj _ _ h
  · rintro rfl; rfl
theorem run_eql_sum (x y : Sum32) (W : World) : (binOp .eql 26 (.agg (sumC x).toArray) (.agg (sumC y).toArray)).run Tryd.prog W = .ok (.bool (decide (x = y))) W := by
  rw [sumC_ints, sumC_ints, run_eql_arr W 26 5 32 .u8 und32 (by kernel_rfl) (by kernel_rfl) _ _ (by rw [List.length_map]; exact x.2) (by rw [List.length_map]; exact y.2)]
  rw [show decide ((x.1.map fun b => (b.toNat : Int)) = (y.1.map fun b => (b.toNat : Int))) = decide (x = y) from decide_eq_decide.2 (ints_inj x y)]
theorem run_neq_sum (x y : Sum32) (W : World) : (binOp .neq 26 (.agg (sumC x).toArray) (.agg (sumC y).toArray)).run Tryd.prog W = .ok (.bool (!decide (x = y))) W := by
  rw [sumC_ints, sumC_ints, run_neq_arr W 26 5 32 .u8 und32 (by kernel_rfl) (by kernel_rfl) _ _ (by rw [List.length_map]; exact x.2) (by rw [List.length_map]; exact y.2)]
  rw [show decide ((x.1.map fun b => (b.toNat : Int)) = (y.1.map fun b => (b.toNat : Int))) = decide (x = y) from decide_eq_decide.2 (ints_inj x y)]
/-- A load of an array known as a list, under a guard that holds. -/
theorem wpList_load_mid_g {P : Program} {ops : Array Oper} {rest : List Oper} {op : Oper} {a : Act} {w : World} {Q : Exit → Act → World → Prop} (hw : Region.wanted op (yielded ops a.tmps) = true) (ty : TypeId) (x : Operand) (ho : op.op = .load ty x)
    (b o : Nat) (hx : a.eval x = .pointer (some ⟨b, o, none⟩)) (cs : List Value) (d : TypeDesc) (hc : w.rangeAt b o cs)
    (hu : P.underlying ty = some d) (hd : d.isRow = true) (hi : (P.info? ty).map (·.size) = some cs.length)
    (h : wpList P ops Q rest (a.put op.dst (.agg cs.toArray)) w) : wpList P ops Q (op :: rest) a w := by
  rw [wpList, if_pos hw]
  exact .inl (wp_load_mid ty x ho b o hx cs d hc hu hd hi h)
theorem Blk.range {W : World} {B : Nat} {t : TypeId} {cs : List Value} (h : Blk W B t cs.toArray) : W.rangeAt B 0 cs := fun j v hv => by
  rw [h.cell, Nat.zero_add]; simpa using hv
theorem Rd.rest32 {w : World} {m b off : Nat} {a : Sum32} {t : List Sum32} (h : Rd w 32 (some ⟨b, off, none⟩) m ((a :: t).flatMap sumC)) : Rd w 32 (some ⟨b, off + 32, none⟩) (m - 1) (t.flatMap sumC) := by
  have hl := h.lenf sumC_len (by omega)
  simp at hl
  refine ⟨by rw [flat_length sumC_len]; congr 1; omega, by have := h.le; omega, fun hp => ?_⟩
  obtain ⟨b', off', e, hc⟩ := h.2.2 (by omega)
  cases e
  refine ⟨b, off + 32, rfl, fun j u hu => ?_⟩
  rw [Nat.add_assoc]
  refine hc (32 + j) u ?_
  rw [List.flatMap_cons, List.getElem?_append_right (by rw [sumC_len]; omega), sumC_len, Nat.add_sub_cancel_left]
  exact hu

set_option maxRecDepth 100000 in
set_option maxHeartbeats 1000000 in
theorem Check_bad (rt : Sum32) (n i : Int) (A B : Option Addr) (len cap m c : Nat) (hi : i < 0 ∨ n ≤ i) (w : World) :
    Calls Tryd.prog 24 #[sumV rt.1, .int .i64 n, .int .i64 i, .slice A len cap, .slice B m c] w fun e w' => e = .returned (.bool false) ∧ Below w.heap.size w w' := by
  have hB : ∀ o, Below w.heap.size w (w.alloc o) := fun o => (Below.refl _ _).alloc (Nat.le_refl _) _
  have HB := Lib.hid hB
  clear hB
  go_enter Tryd.func24, Tryd.ntmps24
  unfold sumV
  by_cases h0 : i < 0
  · go_wp2
    go_ret
    exact ⟨rfl, HB.out _⟩
  · have h1 : n ≤ i := by omega
    clear hi
    go_wp2
    go_ret
    exact ⟨rfl, HB.out _⟩

set_option maxRecDepth 100000 in
set_option maxHeartbeats 1000000 in
theorem Check_any (rt : Sum32) (n i : Nat) (A B : Option Addr) (len cap m c : Nat) (bs : List UInt8) (p : List Sum32) (hi : i < n) (hn : n ≤ 1000000) (w : World) (hg : Globs w) (hr : Rd w 1 A len (bs.map byteV)) (hlen : len ≤ 8796093022000) (hp : Rd w 32 B m (p.flatMap sumC)) (hmc : m ≤ c) :
    Calls Tryd.prog 24 #[sumV rt.1, .int .i64 (n : Int), .int .i64 (i : Int), .slice A len cap, .slice B m c] w fun e w' => e = .returned (.bool (decide (chkL n i (leafS bs) p = some rt))) ∧ Below w.heap.size w w' := by
  obtain ⟨res, hres⟩ : ∃ r, decide (chkL n i (leafS bs) p = some rt) = r := ⟨_, rfl⟩
  rw [hres]
  have Hres := Lib.hid hres
  clear hres
  go_enter Tryd.func24, Tryd.ntmps24
  unfold sumV
  go_upto_region 1 with fail
  obtain ⟨w1, hw1⟩ : ∃ w1, w1 = w.alloc (.cells (rt.1.map byteV).toArray 26) := ⟨_, rfl⟩
  have hB1 : Below w.heap.size w w1 := by rw [hw1]; exact (Below.refl _ _).alloc (Nat.le_refl _) _
  have hR1 : Blk w1 w.heap.size 26 (sumC rt).toArray := by rw [hw1]; exact Blk.new _ _ _
  rw [← hw1]
  have hleaf := Leaf_any A len cap bs w1 (hg.below hB1) (hr.below hB1) hlen
  have hp1 := hp.below hB1
  have Hleaf := Lib.hid hleaf
  have Hg1 := Lib.hid (hg.below hB1)
  have HB1 := Lib.hid hB1
  have HR1 := Lib.hid hR1
  have Hp1 := Lib.hid hp1
  clear hw1 hleaf hg hr hp hB1 hR1 hp1
  go_wp2_with fail
  refine Hleaf.out.mono ?_
  rintro e w2 ⟨rfl, hb2⟩
  have hlf := leaf_length bs
  have HB2 := Lib.hid (HB1.out.trans (hb2.mono HB1.out.size))
  have HR2 := Lib.hid (HR1.out.below hb2 HR1.out.lt)
  have Hp2 := Lib.hid (Hp1.out.below hb2)
  have Hg2 := Lib.hid (Hg1.out.below hb2)
  have hs2 : w.heap.size < w2.heap.size := HR2.out.lt
  clear hb2
  unfold sumV
  go_wp2_with (refine wpList_store_row rfl 26 (.tmp 11) (.tmp 20) rfl w2.heap.size _ rfl rfl 26 zero32 (heap_alloc_new _ _) (size32 _ (sumV_size hlf)) ((zero32_size).trans (sumV_size hlf).symm) (all_oneCell_toArray (oneB _)) ?_; simp only [Act.put])
  have hX0 : Blk ((w2.alloc (.cells zero32 26)).setRow w2.heap.size ((leaf bs).map byteV).toArray) w2.heap.size 26 (sumC (leafS bs)).toArray := setRow_heap _ _ _ _ _ _ (heap_alloc_new _ _)
  have hB3 : Below w2.heap.size w2 ((w2.alloc (.cells zero32 26)).setRow w2.heap.size ((leaf bs).map byteV).toArray) := Below.setRow ((Below.refl _ _).alloc (Nat.le_refl _) _) (Nat.le_refl _) _
  go_loopw [1, 2, 4] (fun vn vi vp wr => ∃ (k j q c' : Nat) (B' : Option Addr) (ys : List Sum32) (x : Sum32), vn = .int .i64 (k : Int) ∧ vi = .int .i64 (j : Int) ∧ vp = .slice B' q c' ∧ q ≤ c' ∧ j < k ∧ k ≤ 1000000 ∧ Rd w2 32 B' q (ys.flatMap sumC) ∧ decide (chkL k j x ys = some rt) = res ∧ Blk wr w2.heap.size 26 (sumC x).toArray ∧ Below w2.heap.size w2 wr) (fun vn _ _ _ => (intOf vn).toNat)
  case atStart => exact ⟨n, i, m, c, B, p, leafS bs, rfl, rfl, rfl, hmc, hi, hn, Hp2.out, Hres.out, hX0, hB3⟩
  case round =>
    obtain ⟨k, j, q, c', B', ys, x, rfl, rfl, rfl, hqc, hjk, hk, hrd, hck, hX, hB⟩ := hrel
    clear hX0 hB3
    have hyl := hrd.lenf sumC_len (by omega)
    have hxor := i64_xor1 j (by omega)
    have hx32 : x.1.length = 32 := x.2
    have hxx : ∀ w', Ext wr w' → w'.rangeAt w2.heap.size 0 (sumC x) := fun w' hw' => Blk.range (hX.below (ext_below hw') hX.lt)
    have Hx := Lib.hid hxx
    have HX := Lib.hid hX
    have HB := Lib.hid hB
    clear hxx
    by_cases h1 : 1 < k
    · by_cases hsk : k ≤ j ^^^ 1
      · have hcs := chkL_skip k j x ys h1 hsk
        rw [hcs] at hck
        have Hck := Lib.hid hck
        have Hrd := Lib.hid hrd
        clear hcs hck hrd hX hB
        generalize j ^^^ 1 = jx at *
        go_wp2
        exact ⟨⟨(k + 1) / 2, j / 2, q, c', B', ys, x, by go_num, by go_num, rfl, hqc, by omega, by omega, Hrd.out, Hck.out, HX.out, HB.out⟩, by simp [intOf]; omega⟩
      · cases ys with
        | nil =>
          obtain rfl : q = 0 := by simpa using hyl.symm
          rw [chkL_nil k j x h1 hsk] at hck
          have hres : res = false := by rw [← hck]; rfl
          have Hr := Lib.hid hres
          clear hck hres hrd hX hB
          generalize j ^^^ 1 = jx at *
          go_wp2
          go_ret
          exact ⟨by rw [Hr.out]; rfl, HB2.out.trans (HB.out.mono (by omega))⟩
        | cons a t =>
          have hq0 : 0 < q := by rw [← hyl]; simp
          obtain ⟨b, off, rfl, _⟩ := hrd.2.2 hq0
          have hcc := chkL_cons k j x a t h1 hsk
          have ha32 : a.1.length = 32 := a.2
          have har := hrd.range32 (k := 0) hq0
          rw [Nat.zero_mul, Nat.add_zero] at har
          have haa : ∀ w', Ext wr w' → w'.rangeAt b off (sumC a) := fun w' hw' j v hv => by
            have h0 := har j v hv
            have h1 := (HB.out.cell (World.block_lt_of_cell? w2 _ h0)).trans h0
            exact ((ext_below hw').cell (World.block_lt_of_cell? wr _ h1)).trans h1
          have Ha := Lib.hid haa
          have Hrest := Lib.hid hrd.rest32
          clear haa har
          generalize j ^^^ 1 = jx at *
          by_cases hj2 : j % 2 = 1
          · rw [if_pos hj2] at hcc
            have hcc2 : decide (chkL ((k + 1) / 2) (j / 2) (pairS a x) t = some rt) = res := by rw [← hcc]; exact hck
            have Hcc := Lib.hid hcc2
            have hb1 : ((j : Int) % 2 == 1) = true := by rw [beq_iff_eq]; omega
            clear hcc hcc2 hck hrd hX hB
            go_wp2
            refine wp_region_reads_tail 5 [0, 1, 2, 3] 1 (by kernel_rfl) (List.take_append_drop _ _) rfl (by kernel_rfl) (by kernel_rfl) (by kernel_rfl) (by decide) (by kernel_rfl) (by kernel_rfl) (fun _ _ d _ _ h => by cases d <;> exact h) (by kernel_rfl) (by kernel_rfl) rfl ?_
            simp only [List.take_succ_cons, List.take_zero, List.drop_succ_cons, List.drop_zero, pickOps, List.getElem?_cons_zero, List.getElem?_cons_succ]
            repeat (first | go_big_quiet_step (fail) | (refine wpQuiet_load_mid rfl 26 _ rfl b off rfl (sumC a) _ Ha.out und32 rfl (by rw [sumC_len]; kernel_rfl) ?_; simp only [Act.put, List.setIfInBounds_toArray, List.set_cons_succ, List.set_cons_zero]) | (refine wpQuiet_load_mid rfl 26 _ rfl w2.heap.size 0 rfl (sumC x) _ Hx.out und32 rfl (by rw [sumC_len]; kernel_rfl) ?_; simp only [Act.put, List.setIfInBounds_toArray, List.set_cons_succ, List.set_cons_zero]))
            refine wpQuiet_nil ?_
            refine wpAnyH_one (i := 4) (by kernel_rfl) rfl ?_
            intro K hK
            go_simp
            have hpair := Pair_any a.1 x.1 ha32 hx32 wr.drew (Hg2.out.below (HB.out.drew))
            have Hpair := Lib.hid hpair
            clear hpair
            unfold sumC
            refine Hpair.out.mono ?_
            rintro e W1 ⟨rfl, hb1⟩
            have hB1 : Below wr.heap.size wr W1 := (Below.refl _ wr).drew.trans hb1
            refine hK _ _ (ext_of hB1) ?_
            clear hK K
            refine wpAnyH_done (by kernel_rfl) ?_ _
            have hpl := pair_length a.1 x.1
            have hX1 : Blk W1 w2.heap.size 26 (sumC x).toArray := HX.out.below hB1 HX.out.lt
            simp only [Exit.then]
            unfold sumV
            refine wpList_store_row rfl 26 (.tmp 11) (.tmp 44) rfl _ _ rfl rfl 26 _ hX1 (size32 _ (sumV_size hpl)) ((by simp [sumC, hx32, hpl])) (all_oneCell_toArray (oneB _)) ?_
            have hX2 : Blk (W1.setRow w2.heap.size ((pair a.1 x.1).map byteV).toArray) w2.heap.size 26 (sumC (pairS a x)).toArray := setRow_heap _ _ _ _ _ _ hX1
            have hB2 : Below w2.heap.size w2 (W1.setRow w2.heap.size ((pair a.1 x.1).map byteV).toArray) := Below.setRow (HB.out.trans (hB1.mono HB.out.size)) (Nat.le_refl _) _
            refine wpList_nil ?_
            have HX2 := Lib.hid hX2
            have HB2 := Lib.hid hB2
            clear hX2 hB2 hX1 hB1 hb1
            generalize (W1.setRow w2.heap.size ((pair a.1 x.1).map byteV).toArray) = W2 at *
            simp only [Act.put]
            by_cases hc1 : c' = 1
            · subst hc1
              go_wp2
              exact ⟨⟨(k + 1) / 2, j / 2, q - 1, 0, some ⟨b, off, none⟩, t, pairS a x, by go_num, by go_num, by simp; omega, by omega, by omega, by omega, by obtain rfl : t = [] := List.eq_nil_of_length_eq_zero (by simp at hyl; omega); rw [show q - 1 = 0 from by omega]; exact Rd.nil _ _ _, Hcc.out, HX2.out, HB2.out⟩, by simp [intOf]; omega⟩
            · go_wp2
              exact ⟨⟨(k + 1) / 2, j / 2, q - 1, c' - 1, some ⟨b, off + 32, none⟩, t, pairS a x, by go_num, by go_num, by simp, by omega, by omega, by omega, Hrest.out, Hcc.out, HX2.out, HB2.out⟩, by simp [intOf]; omega⟩
          · rw [if_neg hj2] at hcc
            have hcc2 : decide (chkL ((k + 1) / 2) (j / 2) (pairS x a) t = some rt) = res := by rw [← hcc]; exact hck
            have Hcc := Lib.hid hcc2
            have hb1 : ((j : Int) % 2 == 1) = false := by rw [beq_eq_false_iff_ne]; omega
            clear hcc hcc2 hck hrd hX hB
            go_wp2
            refine wp_region_reads_tail 5 [0, 1, 2, 3] 1 (by kernel_rfl) (List.take_append_drop _ _) rfl (by kernel_rfl) (by kernel_rfl) (by kernel_rfl) (by decide) (by kernel_rfl) (by kernel_rfl) (fun _ _ d _ _ h => by cases d <;> exact h) (by kernel_rfl) (by kernel_rfl) rfl ?_
            simp only [List.take_succ_cons, List.take_zero, List.drop_succ_cons, List.drop_zero, pickOps, List.getElem?_cons_zero, List.getElem?_cons_succ]
            repeat (first | go_big_quiet_step (fail) | (refine wpQuiet_load_mid rfl 26 _ rfl b off rfl (sumC a) _ Ha.out und32 rfl (by rw [sumC_len]; kernel_rfl) ?_; simp only [Act.put, List.setIfInBounds_toArray, List.set_cons_succ, List.set_cons_zero]) | (refine wpQuiet_load_mid rfl 26 _ rfl w2.heap.size 0 rfl (sumC x) _ Hx.out und32 rfl (by rw [sumC_len]; kernel_rfl) ?_; simp only [Act.put, List.setIfInBounds_toArray, List.set_cons_succ, List.set_cons_zero]))
            refine wpQuiet_nil ?_
            refine wpAnyH_one (i := 4) (by kernel_rfl) rfl ?_
            intro K hK
            go_simp
            have hpair := Pair_any x.1 a.1 hx32 ha32 wr.drew (Hg2.out.below (HB.out.drew))
            have Hpair := Lib.hid hpair
            clear hpair
            unfold sumC
            refine Hpair.out.mono ?_
            rintro e W1 ⟨rfl, hb1⟩
            have hB1 : Below wr.heap.size wr W1 := (Below.refl _ wr).drew.trans hb1
            refine hK _ _ (ext_of hB1) ?_
            clear hK K
            refine wpAnyH_done (by kernel_rfl) ?_ _
            have hpl := pair_length x.1 a.1
            have hX1 : Blk W1 w2.heap.size 26 (sumC x).toArray := HX.out.below hB1 HX.out.lt
            simp only [Exit.then]
            unfold sumV
            refine wpList_store_row rfl 26 (.tmp 11) (.tmp 49) rfl _ _ rfl rfl 26 _ hX1 (size32 _ (sumV_size hpl)) ((by simp [sumC, hx32, hpl])) (all_oneCell_toArray (oneB _)) ?_
            have hX2 : Blk (W1.setRow w2.heap.size ((pair x.1 a.1).map byteV).toArray) w2.heap.size 26 (sumC (pairS x a)).toArray := setRow_heap _ _ _ _ _ _ hX1
            have hB2 : Below w2.heap.size w2 (W1.setRow w2.heap.size ((pair x.1 a.1).map byteV).toArray) := Below.setRow (HB.out.trans (hB1.mono HB.out.size)) (Nat.le_refl _) _
            refine wpList_nil ?_
            have HX2 := Lib.hid hX2
            have HB2 := Lib.hid hB2
            clear hX2 hB2 hX1 hB1 hb1
            generalize (W1.setRow w2.heap.size ((pair x.1 a.1).map byteV).toArray) = W2 at *
            simp only [Act.put]
            by_cases hc1 : c' = 1
            · subst hc1
              go_wp2
              exact ⟨⟨(k + 1) / 2, j / 2, q - 1, 0, some ⟨b, off, none⟩, t, pairS x a, by go_num, by go_num, by simp; omega, by omega, by omega, by omega, by obtain rfl : t = [] := List.eq_nil_of_length_eq_zero (by simp at hyl; omega); rw [show q - 1 = 0 from by omega]; exact Rd.nil _ _ _, Hcc.out, HX2.out, HB2.out⟩, by simp [intOf]; omega⟩
            · go_wp2
              exact ⟨⟨(k + 1) / 2, j / 2, q - 1, c' - 1, some ⟨b, off + 32, none⟩, t, pairS x a, by go_num, by go_num, by simp, by omega, by omega, by omega, Hrest.out, Hcc.out, HX2.out, HB2.out⟩, by simp [intOf]; omega⟩
    · obtain rfl : k = 1 := by omega
      obtain rfl : j = 0 := by omega
      rw [chkL_one 1 0 x ys (by omega)] at hck
      have hE := run_eql_sum x rt
      have hxr : wr.rangeAt w2.heap.size 0 (sumC x) := Blk.range hX
      have hrr : wr.rangeAt w.heap.size 0 (sumC rt) := Blk.range (HR2.out.below HB.out hs2)
      have Hxr := Lib.hid hxr
      have Hrr := Lib.hid hrr
      have HE := Lib.hid hE
      clear hxr hrr hE hrd hX hB
      cases ys with
      | nil =>
        obtain rfl : q = 0 := by simpa using hyl.symm
        rw [if_pos rfl] at hck
        have hres : decide (x = rt) = res := by rw [← hck]; simp
        have Hr := Lib.hid hres
        clear hck hres
        have hE := HE.out
        go_wp2_with (first | (refine wpList_load_mid_g (by first | rfl | simp [Region.wanted, yielded]) 26 (.tmp 11) rfl w2.heap.size 0 rfl (sumC x) _ Hxr.out und32 rfl (by rw [sumC_len]; kernel_rfl) ?_) | (refine wpList_load_mid_g (by first | rfl | simp [Region.wanted, yielded]) 26 (.tmp 5) rfl w.heap.size 0 rfl (sumC rt) _ Hrr.out und32 rfl (by rw [sumC_len]; kernel_rfl) ?_))
        go_ret
        exact ⟨by rw [← Hr.out]; rfl, HB2.out.trans (HB.out.mono (by omega))⟩
      | cons a t =>
        have hq0 : 0 < q := by rw [← hyl]; simp
        rw [if_neg (by simp)] at hck
        have hres : res = false := by rw [← hck]; rfl
        have Hr := Lib.hid hres
        clear hck hres
        go_wp2
        go_ret
        exact ⟨by rw [Hr.out]; rfl, HB2.out.trans (HB.out.mono (by omega))⟩
end

end Go.Proofs.YtfdhiilhjfbehaaDoor
