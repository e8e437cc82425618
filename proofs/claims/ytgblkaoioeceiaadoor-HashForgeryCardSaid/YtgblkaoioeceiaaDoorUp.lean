/- Package hash: up. -/
import Derived.Test.YtgblkaoioeceiaaDoorChunk
import Derived.Test.YtgblkaoioeceiaaDoorHeadTail
namespace Go.Proofs.YtgblkaoioeceiaaDoor
open Go.RowKit Go.Shelf

attribute [local go_sem] Oper.semAt_some

def z32 : Sum32 := ⟨List.replicate 32 0, rfl⟩
def upAt (xs : List Sum32) (k : Nat) : Sum32 := if 2 * k + 1 < xs.length then pairS (xs.getD (2 * k) z32) (xs.getD (2 * k + 1) z32) else xs.getD (2 * k) z32
def upL (xs : List Sum32) : List Sum32 := (List.range ((xs.length + 1) / 2)).map (upAt xs)
theorem upL_length (xs : List Sum32) : (upL xs).length = (xs.length + 1) / 2 := by simp [upL]

theorem chunk_in (n : Nat) (A : Option Addr) (len cap : Nat) (w : World) :
    CallsIn Fence.wide n Tryd.prog 41 #[.slice A len cap, .int .i64 2] w fun e w' =>
      e = .returned (.func (.func 46) #[] #[.pointer (some ⟨w.heap.size, 0, none⟩), .pointer (some ⟨w.heap.size + 1, 0, none⟩)]) ∧
      w' = (w.alloc (.cells #[.slice A len cap] 27)).alloc (.cells #[.int .i64 2] 3) := by
  refine callsIn_of_wp Tryd.func41 rfl trivial ?_ rfl
  simp only [Tryd.ntmps41, List.size_toArray, List.length_cons, List.length_nil, Nat.reduceAdd, Nat.reduceSub, Array.replicate_succ, Array.replicate_zero, List.push_toArray, List.append_toArray, List.nil_append, List.cons_append]
  gi_wp2
  go_ret
  exact ⟨rfl, rfl⟩

theorem Rd.lt {w : World} {sz n : Nat} {A : Option Addr} {xs : List Value} (h : Rd w sz A n xs) (hsz : 0 < sz) (hn : 0 < n) {b off : Nat} (hA : A = some ⟨b, off, none⟩) : b < w.heap.size := by
  obtain ⟨b', off', e, hc⟩ := h.2.2 hn
  rw [hA] at e
  cases e
  have hl : 0 < xs.length := by rw [h.1]; exact Nat.mul_pos hn hsz
  exact World.block_lt_of_cell? w ⟨b, off + 0, none⟩ (hc 0 xs[0] (List.getElem?_eq_getElem hl))
/-- A range of a slice of hashes. -/
theorem Rd.range32 {w : World} {b off n k : Nat} {xs : List Sum32} (h : Rd w 32 (some ⟨b, off, none⟩) n (xs.flatMap sumC)) (hk : k < n) : w.rangeAt b (off + k * 32) (sumC (xs.getD k z32)) := by
  obtain ⟨b', off', x, e, hx, hc⟩ := h.flat_ sumC_len (by omega) hk
  cases e
  intro j v hv
  rw [List.getD_eq_getElem?_getD, hx] at hv
  rw [Nat.add_assoc]
  exact hc j v hv

/-- A slice of one element of several cells, as one operation. -/
theorem step_build1 {P : Program} {ops : Array Oper} {Q : Exit → Act → World → Prop} {o : Oper} {a : Act} {w : World} {K : Act → World → Prop} {E : Prop} (hg : o.guard = none) (t e : TypeId) (x : Operand) (ho : o.op = .buildSlice t 1 #[(0, x)])
    (cells : Array Value) (ie : TypeInfo) (z : Value) (s : Nat) (hu : P.underlying t = some (.slice e)) (hie : P.info? e = some ie) (hz : ie.zero = some z) (hs : ie.size = s) (hpos : 0 < s) (hsm : s ≤ 2 ^ 24)
    (hx : a.eval x = .agg cells) (hc : cells.size = s)
    (h : K (a.put o.dst (.slice (some ⟨w.heap.size, 0, none⟩) 1 1)) (w.alloc (.cells cells e))) : if Region.wanted o (yielded ops a.tmps) = true then Oper.wp P o a w K Q else E := by
  have hw : Region.wanted o (yielded ops a.tmps) = true := by simp [Region.wanted, hg]
  rw [if_pos hw]
  subst hs
  refine wp_buildSlice t e 1 _ ho cells ie z hu hie hz (by omega) (by omega) ?_ h
  have := Great.fill_whole hpos [.agg cells] ((Array.range (1 * ie.size)).map (z.cells[· % z.cells.size]!)) (by simp [Value.cells, hc]) (by simp)
  simpa [hx, Value.cells] using this

set_option maxRecDepth 100000 in
set_option maxHeartbeats 1000000 in
theorem up_in (n : Nat) (hn : 3 ≤ n) (b off len cap : Nat) (xs : List Sum32) (w : World) (hg : Globs w) (hr : Rd w 32 (some ⟨b, off, none⟩) len (xs.flatMap sumC)) (h1 : 0 < len) (hlen : len ≤ 1000000) (hcap : len ≤ cap) :
    CallsIn Fence.wide n Tryd.prog 29 #[.slice (some ⟨b, off, none⟩) len cap] w fun e w' => ∃ A' c', e = .returned (.slice A' ((len + 1) / 2) c') ∧ (len + 1) / 2 ≤ c' ∧ Rd w' 32 A' ((len + 1) / 2) ((upL xs).flatMap sumC) ∧ Below w.heap.size w w' ∧ ∀ b off, A' = some ⟨b, off, none⟩ → w.heap.size ≤ b := by
  have h1n : 1 ≤ n := by omega
  have hxl := hr.lenf sumC_len (by omega)
  have hbs : b < w.heap.size := hr.lt (by omega) h1 rfl
  obtain ⟨i0, hi0, hz0, hz1, hz2⟩ := info_parts info32
  refine callsIn_of_wp_marks Tryd.func29 rfl trivial ?_ rfl
  simp only [Tryd.ntmps29, List.size_toArray, List.length_cons, List.length_nil, Nat.reduceAdd, Nat.reduceSub, Array.replicate_succ, Array.replicate_zero, List.push_toArray, List.append_toArray, List.nil_append, List.cons_append]
  gi_wp2_with (refine ⟨trivial, ?_⟩; gi_at_call 41; refine (chunk_in (n - 1) _ _ _ _).mono ?_; rintro e w' ⟨rfl, rfl⟩)
  have bO := ((Boxed.new w 27 (.slice none 0 0)).alloc (.cells #[.slice (some ⟨b, off, none⟩) len cap] 27)).alloc (.cells #[.int .i64 2] 3)
  have bA := (Boxed.new (w.alloc (.cells #[.slice none 0 0] 27)) 27 (.slice (some ⟨b, off, none⟩) len cap)).alloc (.cells #[.int .i64 2] 3)
  have b2 := Boxed.new ((w.alloc (.cells #[.slice none 0 0] 27)).alloc (.cells #[.slice (some ⟨b, off, none⟩) len cap] 27)) 3 (.int .i64 2)
  simp only [World.size_alloc] at bO bA b2
  have hB0 : Below w.heap.size w (((w.alloc (.cells #[.slice none 0 0] 27)).alloc (.cells #[.slice (some ⟨b, off, none⟩) len cap] 27)).alloc (.cells #[.int .i64 2] 3)) :=
    (((Below.refl _ w).alloc (Nat.le_refl _) _).alloc (by simp) _).alloc (by simp; omega) _
  have hsz : (((w.alloc (.cells #[.slice none 0 0] 27)).alloc (.cells #[.slice (some ⟨b, off, none⟩) len cap] 27)).alloc (.cells #[.int .i64 2] 3)).heap.size = w.heap.size + 3 := by simp
  obtain ⟨W0, hW0⟩ : ∃ W0, ((w.alloc (.cells #[.slice none 0 0] 27)).alloc (.cells #[.slice (some ⟨b, off, none⟩) len cap] 27)).alloc (.cells #[.int .i64 2] 3) = W0 := ⟨_, rfl⟩
  rw [hW0] at bO bA b2 hB0 hsz ⊢
  clear hW0
  have hS : ∀ k, (k < W0.heap.size ∧ k ≠ w.heap.size) → k < W0.heap.size := fun k hk => hk.1
  refine wpIn_rangeFunc_ownH rfl h1n (gf := 46) (lb := #[.pointer (some ⟨w.heap.size + 1, 0, none⟩), .pointer (some ⟨w.heap.size + 1 + 1, 0, none⟩)]) rfl trivial (enters_of Tryd.func46 (by kernel_rfl) rfl)
    (chunk_stops (n - 1) (by omega) (w.heap.size + 1) (w.heap.size + 1 + 1) (fun k => k < W0.heap.size ∧ k ≠ w.heap.size) b off len cap hlen hcap W0 bA.cell b2.cell ⟨by omega, by omega⟩ ⟨by omega, by omega⟩)
    keptK_t (keptK_b hS) (Below.refl _ _) (fun _ => rfl)
    (fun pre W => (∃ v, Boxed W w.heap.size 27 v ∧ W.ownsRow W0.heap.size 32 32 v pre.length (pre.flatMap (fun x => sumC (upAt xs x.1))) ∧ True) ∧ KeptIn (fun k => k < W0.heap.size ∧ k ≠ w.heap.size) W0 W)
    (fun _ _ _ => False)
    (OwnFrom.and (Own.from (holdsRow_own W0.heap.size w.heap.size 27 32 32 (fun (pre : List (Pc len)) => pre.length) (fun pre => pre.flatMap (fun x => sumC (upAt xs x.1))) (fun _ _ => True)) _) (ownFrom_keptIn hS hS))
    (fun _ _ _ _ _ hs _ _ => hs)
    ⟨⟨_, bO, World.ownsRow_nil _ _ _ _, trivial⟩, KeptIn.refl _ _⟩
    (fun x a' _ => a' = { tmps := #[.slice (some ⟨b, off, none⟩) len cap, undef, .slice none 0 0, .pointer (some ⟨w.heap.size, 0, none⟩), pcV b off len x, .slice (some ⟨b, off, none⟩) len cap, .func (.func 46) #[] #[.pointer (some ⟨w.heap.size + 1, 0, none⟩), .pointer (some ⟨w.heap.size + 1 + 1, 0, none⟩)], pcV b off len x, undef, undef, undef, undef, undef, undef, undef, undef, undef, undef, undef, undef, undef, undef, undef, undef, undef, undef, undef, undef], defers := [] })
    (fun x a' _ X Y row hs hg hr => hs)
    ?assign ?body ?done ?stop
  case assign =>
    rintro l pre x W K ⟨⟨v, bv, hrow, _⟩, hK0⟩ hK
    gi_wp2
    exact hK _ _ (KeepsFrom.refl _ _) (KeptIn.refl _ W) ⟨⟨v, bv, hrow, trivial⟩, hK0⟩ rfl
  case body =>
    rintro l pre x a' W hl ⟨r, hr0⟩ ⟨⟨v, bv, hrow, _⟩, hK0⟩ rfl hlt
    obtain ⟨k, hk⟩ := x
    have hsW := hK0.size
    have hrW : Rd W 32 (some ⟨b, off, none⟩) len (xs.flatMap sumC) := (hr.below hB0).keptIn hK0 (fun b' off' _ e => by cases e; exact ⟨by omega, by omega⟩)
    have hgW : Globs W := hg.keep (fun p v hp => by have hlt := World.block_lt_of_cell? w p hp; exact ((hK0.cell (p := p) ⟨by omega, by omega⟩).trans (hB0.cell hlt)).trans hp)
    have cv := bv.cell
    by_cases hk2 : 2 * k + 1 < len
    · have hpn : pcN len k = 2 := by unfold pcN; omega
      have hua : upAt xs k = pairS (xs.getD (2 * k) z32) (xs.getD (2 * k + 1) z32) := by unfold upAt; rw [if_pos (by omega)]
      have hx0 := hrW.range32 (k := 2 * k) (by omega)
      have hx1 := hrW.range32 (k := 2 * k + 1) (by omega)
      unfold pcV
      dsimp only
      rw [hpn]
      generalize xs.getD (2 * k) z32 = x0 at *
      generalize xs.getD (2 * k + 1) z32 = x1 at *
      have hp0 := x0.2
      have hp1 := x1.2
      have hpl := pair_length x0.1 x1.1
      have hc := hS W0.heap.size
      gi_wp2
      refine round_region_reads_tail 9 [0, 1, 2, 3, 4, 5, 6] 2 (by kernel_rfl) (by kernel_rfl) (by repeat (first | exact letsOut_own | refine letsOut_then ?_ | refine letsOut_block ?_)) (List.take_append_drop _ _) rfl (by kernel_rfl) (by kernel_rfl) (by kernel_rfl) (by decide) (by kernel_rfl) (by kernel_rfl) (fun _ _ d _ _ h => by cases d <;> exact h) (by kernel_rfl) (by kernel_rfl) rfl ?_
      simp only [List.take_succ_cons, List.take_zero, List.drop_succ_cons, List.drop_zero, pickOps, List.getElem?_cons_zero, List.getElem?_cons_succ]
      have k5 := cell_regrown cv
      have hx0' : ∀ w', Ext W w' → w'.rangeAt b (off + 2 * k * 32) (sumC x0) := fun w' hw' j v hv => ((ext_below hw').cell (World.block_lt_of_cell? W _ (hx0 j v hv))).trans (hx0 j v hv)
      have hx1' : ∀ w', Ext W w' → w'.rangeAt b (off + 2 * k * 32 + 32) (sumC x1) := fun w' hw' j v hv => by
        have := hx1 j v hv
        rw [show off + (2 * k + 1) * 32 + j = off + 2 * k * 32 + 32 + j from by omega] at this
        exact ((ext_below hw').cell (World.block_lt_of_cell? W _ this)).trans this
      repeat (first | go_big_quiet_step (fail) | (refine wpQuiet_load_mid rfl 32 _ rfl b _ rfl (sumC x0) _ hx0' und32 rfl (by rw [sumC_len]; kernel_rfl) ?_; simp only [Act.put, List.setIfInBounds_toArray, List.set_cons_succ, List.set_cons_zero]) | (refine wpQuiet_load_mid rfl 32 _ rfl b _ rfl (sumC x1) _ hx1' und32 rfl (by rw [sumC_len]; kernel_rfl) ?_; simp only [Act.put, List.setIfInBounds_toArray, List.set_cons_succ, List.set_cons_zero]))
      refine wpQuiet_nil ?_
      refine wpAnyH_one (i := 7) (by kernel_rfl) rfl ?_
      intro K hK
      go_simp
      have hpair := Pair_any x0.1 x1.1 hp0 hp1 W.drew (hgW.below (Below.refl _ W).drew)
      have Hpair := Lib.hid hpair
      clear hpair
      unfold sumC
      refine Hpair.out.mono ?_
      rintro e W1 ⟨rfl, hb1⟩
      have hB1 : Below W.heap.size W W1 := (Below.refl _ W).drew.trans hb1
      refine hK _ _ (ext_of hB1) ?_
      clear hK K
      refine wpAnyH_one (i := 8) (by kernel_rfl) rfl ?_
      intro K hK
      refine step_build1 rfl 27 32 (.tmp 18) rfl _ i0 _ 32 Tryd.underlying27 hi0 hz0 hz1 (by omega) (by omega) rfl (sumV_size hpl) ?_
      refine hK _ _ (ext_of (hB1.alloc hB1.size _)) ?_
      clear hK K
      refine wpAnyH_done (by kernel_rfl) ?_ _
      have hrowW : W1.ownsRow W0.heap.size 32 32 v pre.length (pre.flatMap (fun x => sumC (upAt xs x.1))) := hrow.kept (⟨hB1.os, hB1.tape, hB1.output, hB1.size, fun k hk _ => hB1.block k hk⟩ : W.grownBy W1 none) (by cases v.ownBlock <;> simp)
      have hrow1 : (W1.alloc (.cells ((pair x0.1 x1.1).map byteV).toArray 32)).ownsRow W0.heap.size 32 32 v pre.length (pre.flatMap (fun x => sumC (upAt xs x.1))) := hrowW.alloc _
      have bv1 : Boxed W1 w.heap.size 27 v := Blk.below bv hB1 (by omega)
      have hs1 := hB1.size
      simp only [Exit.then]
      refine wpList_append_own _ rfl (.tmp 11) (.tmp 19) 27 rfl W0.heap.size 32 i0 (.agg zero32) 32 32 Tryd.underlying27 hi0 hz0 hz1 hz2 rfl (by decide) v _ _ rfl hrow1 ⟨W1.heap.size, 0, none⟩ 1 1 ((pair x0.1 x1.1).map byteV) rfl (by rw [List.length_map, hpl]) (cells_new _ _ _) (oneB _) (by unfold maxLen; omega) (by omega) (by simp; omega) ?_
      intro v' w1 hown' hgrow _
      obtain ⟨g', cap', rfl⟩ := ownsRow_succ hown'
      obtain ⟨hv1, hv2, hr2, hk2', hb2⟩ := boxed_append bv1 hrowW (by omega) (by omega) hown' hgrow
      refine wpList_store_one rfl 27 (.tmp 3) (.tmp 20) rfl w.heap.size rfl rfl 27 v hv1 (by kernel_rfl) ?_
      have hset : w1.setRow w.heap.size #[.slice (some ⟨g', 0, none⟩) (pre.length + 1) cap'] = w1.setCell ⟨w.heap.size, 0, none⟩ (.slice (some ⟨g', 0, none⟩) (pre.length + 1) cap') := (setCell_eq_setRow w1 w.heap.size 0 _ 27 (0, 0) _ hv1).symm
      refine wpList_nil ?_
      rw [show (Act.eval _ (Operand.tmp 20)) = Value.slice (some ⟨g', 0, none⟩) (pre.length + 1) cap' from rfl, hset]
      have hfin : KeptIn (fun k => k < W0.heap.size ∧ k ≠ w.heap.size) W (w1.setCell ⟨w.heap.size, 0, none⟩ (.slice (some ⟨g', 0, none⟩) (pre.length + 1) cap')) := (KeptIn.of_below hB1 (fun k hk => by omega)).trans hb2
      gi_wp2
      refine ⟨((KeepsOthers.of_grownBy (⟨hB1.os, hB1.tape, hB1.output, hB1.size, fun k hk _ => hB1.block k hk⟩ : W.grownBy W1 none) (fun _ _ e => by cases e)).trans hk2').from _, hfin, ⟨_, hv2, ?_, trivial⟩, hK0.trans hfin⟩
      rw [List.length_append, List.flatMap_append, List.flatMap_cons, List.flatMap_nil, List.append_nil, hua]
      exact hr2
    · have hpn : pcN len k = 1 := by unfold pcN; omega
      have hua : upAt xs k = xs.getD (2 * k) z32 := by unfold upAt; rw [if_neg (by omega)]
      have hx0 := hrW.range32 (k := 2 * k) (by omega)
      unfold pcV
      dsimp only
      rw [hpn]
      generalize xs.getD (2 * k) z32 = x0 at *
      have hp0 := x0.2
      gi_wp2
      refine round_region_reads_tail 5 [0, 1, 2, 3] 1 (by kernel_rfl) (by kernel_rfl) (by repeat (first | exact letsOut_own | refine letsOut_then ?_ | refine letsOut_block ?_)) (List.take_append_drop _ _) rfl (by kernel_rfl) (by kernel_rfl) (by kernel_rfl) (by decide) (by kernel_rfl) (by kernel_rfl) (fun _ _ d _ _ h => by cases d <;> exact h) (by kernel_rfl) (by kernel_rfl) rfl ?_
      simp only [List.take_succ_cons, List.take_zero, List.drop_succ_cons, List.drop_zero, pickOps, List.getElem?_cons_zero, List.getElem?_cons_succ]
      have k5 := cell_regrown cv
      have hx0' : ∀ w', Ext W w' → w'.rangeAt b (off + 2 * k * 32) (sumC x0) := fun w' hw' j v hv => ((ext_below hw').cell (World.block_lt_of_cell? W _ (hx0 j v hv))).trans (hx0 j v hv)
      repeat (first | go_big_quiet_step (fail) | (refine wpQuiet_load_mid rfl 32 _ rfl b _ rfl (sumC x0) _ hx0' und32 rfl (by rw [sumC_len]; kernel_rfl) ?_; simp only [Act.put, List.setIfInBounds_toArray, List.set_cons_succ, List.set_cons_zero]))
      refine wpQuiet_nil ?_
      refine wpAnyH_one (i := 4) (by kernel_rfl) rfl ?_
      intro K hK
      refine step_build1 rfl 27 32 (.tmp 24) rfl _ i0 _ 32 Tryd.underlying27 hi0 hz0 hz1 (by omega) (by omega) rfl (sumV_size hp0) ?_
      have hB1 : Below W.heap.size W W.drew := (Below.refl _ W).drew
      refine hK _ _ (ext_of (hB1.alloc hB1.size _)) ?_
      clear hK K
      refine wpAnyH_done (by kernel_rfl) ?_ _
      have hrowW : W.drew.ownsRow W0.heap.size 32 32 v pre.length (pre.flatMap (fun x => sumC (upAt xs x.1))) := hrow
      have hrow1 : (W.drew.alloc (.cells (x0.1.map byteV).toArray 32)).ownsRow W0.heap.size 32 32 v pre.length (pre.flatMap (fun x => sumC (upAt xs x.1))) := hrowW.alloc _
      have bv1 : Boxed W.drew w.heap.size 27 v := bv
      have hs1 : W0.heap.size ≤ W.drew.heap.size := hsW
      simp only [Exit.then]
      refine wpList_append_own _ rfl (.tmp 21) (.tmp 25) 27 rfl W0.heap.size 32 i0 (.agg zero32) 32 32 Tryd.underlying27 hi0 hz0 hz1 hz2 rfl (by decide) v _ _ rfl hrow1 ⟨W.drew.heap.size, 0, none⟩ 1 1 (x0.1.map byteV) rfl (by rw [List.length_map, hp0]) (cells_new _ _ _) (oneB _) (by unfold maxLen; omega) (by omega) (by simp; omega) ?_
      intro v' w1 hown' hgrow _
      obtain ⟨g', cap', rfl⟩ := ownsRow_succ hown'
      obtain ⟨hv1, hv2, hr2, hk2', hb2⟩ := boxed_append bv1 hrowW (by omega) (by omega) hown' hgrow
      refine wpList_store_one rfl 27 (.tmp 3) (.tmp 26) rfl w.heap.size rfl rfl 27 v hv1 (by kernel_rfl) ?_
      have hset : w1.setRow w.heap.size #[.slice (some ⟨g', 0, none⟩) (pre.length + 1) cap'] = w1.setCell ⟨w.heap.size, 0, none⟩ (.slice (some ⟨g', 0, none⟩) (pre.length + 1) cap') := (setCell_eq_setRow w1 w.heap.size 0 _ 27 (0, 0) _ hv1).symm
      refine wpList_nil ?_
      rw [show (Act.eval _ (Operand.tmp 26)) = Value.slice (some ⟨g', 0, none⟩) (pre.length + 1) cap' from rfl, hset]
      have hfin : KeptIn (fun k => k < W0.heap.size ∧ k ≠ w.heap.size) W (w1.setCell ⟨w.heap.size, 0, none⟩ (.slice (some ⟨g', 0, none⟩) (pre.length + 1) cap')) := (KeptIn.of_below hB1 (fun k hk => by omega)).trans hb2
      gi_wp2
      refine ⟨((KeepsOthers.drew W).trans hk2').from _, hfin, ⟨_, hv2, ?_, trivial⟩, hK0.trans hfin⟩
      rw [List.length_append, List.flatMap_append, List.flatMap_cons, List.flatMap_nil, List.append_nil, hua]
      exact hr2
  case done =>
    rintro D ys W hD hys ⟨⟨v, bv, hrow, _⟩, hK0⟩ hK
    have Hys := Lib.hid hys
    clear hys
    have cv := bv.cell
    gi_wp2
    refine ⟨by simp, .inl ⟨_, _, rfl, run_takeDeferred hK, ?_⟩⟩
    obtain ⟨A', c', rfl⟩ := ownsRow_slice hrow
    have hyl : ys.length = (len + 1) / 2 := by have := congrArg List.length Hys.out; simpa using this
    have hcc := ownsRow_cap hrow
    have hfl : (upL xs).flatMap sumC = ys.flatMap (fun x => sumC (upAt xs x.1)) := by
      unfold upL
      rw [hxl, ← Hys.out, List.map_map, List.flatMap_map]
      rfl
    rw [hyl] at hrow hcc
    refine ⟨_, results_tmp rfl _ _ _, A', c', ?_, hcc, by rw [hfl]; exact Rd.of_own (ownsRow_putObj hrow _ hK rfl), ?_, fun b off e => by have := (hrow.lt b (by rw [e]; rfl)).1; omega⟩
    · simp [hyl]
    · exact hB0.trans (((hK0.below (B := w.heap.size) (fun k hk => ⟨by omega, by omega⟩)).mono (Nat.le_refl _)).trans (belowK_b (w := w) (Nat.le_refl _) W D _ _ (by omega) hK rfl rfl))
  case stop =>
    rintro D c pre W _ _ h _
    exact h.elim

theorem Up_any (b off len cap : Nat) (xs : List Sum32) (w : World) (hg : Globs w) (hr : Rd w 32 (some ⟨b, off, none⟩) len (xs.flatMap sumC)) (h1 : 0 < len) (hlen : len ≤ 1000000) (hcap : len ≤ cap) :
    Calls Tryd.prog 29 #[.slice (some ⟨b, off, none⟩) len cap] w fun e w' => ∃ A' c', e = .returned (.slice A' ((len + 1) / 2) c') ∧ (len + 1) / 2 ≤ c' ∧ Rd w' 32 A' ((len + 1) / 2) ((upL xs).flatMap sumC) ∧ Below w.heap.size w w' ∧ ∀ b off, A' = some ⟨b, off, none⟩ → w.heap.size ≤ b :=
  callsIn_wide.1 (up_in 3 (Nat.le_refl _) b off len cap xs w hg hr h1 hlen hcap)
end Go.Proofs.YtgblkaoioeceiaaDoor
