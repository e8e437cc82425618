/- Package block: Blocks and Cuts hand back the blocks and the cuts. -/
import Derived.Test.YtdhibimhohkmoaaBlockAll
namespace Go.Proofs.Ytdhibimhohkmoaa
open Go.RowKit Go.Shelf

attribute [local go_sem] Oper.semAt_some

theorem limits_true (lo hi : Nat) (hlo : 4 ≤ lo) (hlh : lo ≤ hi) (hhi : hi ≤ 4096) (w : World) :
    Calls Try.prog 26 #[.int .i64 lo, .int .i64 hi] w fun e w' => e = .returned (.bool true) ∧ w = w' := by
  go_enter Try.func26, Try.ntmps26
  go_wp2
  go_ret
  exact ⟨ret_bool (by simp; omega), rfl⟩
theorem limits_false (a b : Int) (h : ¬ (4 ≤ a ∧ a ≤ b ∧ b ≤ 4096)) (w : World) :
    Calls Try.prog 26 #[.int .i64 a, .int .i64 b] w fun e w' => e = .returned (.bool false) ∧ w = w' := by
  by_cases h1 : 4 ≤ a
  · by_cases h2 : a ≤ b
    · have h3 : 4096 < b := by omega
      clear h
      go_enter Try.func26, Try.ntmps26
      go_wp2
      go_ret
      exact ⟨ret_bool (by simp; omega), rfl⟩
    · clear h
      go_enter Try.func26, Try.ntmps26
      go_wp2
      go_ret
      exact ⟨rfl, rfl⟩
  · clear h
    go_enter Try.func26, Try.ntmps26
    go_wp2
    go_ret
    exact ⟨rfl, rfl⟩

/-- The iterator's maker boxes its three arguments. -/
theorem all_in (n : Nat) (A : Option Addr) (len cap : Nat) (a b : Int) (w : World) :
    CallsIn Fence.wide n Try.prog 27 #[.slice A len cap, .int .i64 a, .int .i64 b] w fun e w' =>
      e = .returned (.func (.func 30) #[] #[.pointer (some ⟨w.heap.size, 0, none⟩), .pointer (some ⟨w.heap.size + 1 + 1, 0, none⟩), .pointer (some ⟨w.heap.size + 1, 0, none⟩)]) ∧
      w' = ((w.alloc (.cells #[.slice A len cap] 22)).alloc (.cells #[.int .i64 a] 3)).alloc (.cells #[.int .i64 b] 3) := by
  refine callsIn_of_wp Try.func27 rfl trivial ?_ rfl
  simp only [Try.ntmps27, List.size_toArray, List.length_cons, List.length_nil, Nat.reduceAdd, Nat.reduceSub, Array.replicate_succ, Array.replicate_zero, List.push_toArray, List.append_toArray, List.nil_append, List.cons_append]
  gi_wp2
  go_ret
  exact ⟨rfl, rfl⟩

/-- What 'all' hands back yields the blocks. -/
theorem all_stops (n : Nat) (hn : 1 ≤ n) (B1 B2 B3 : Nat) (S : Nat → Prop) (A : Option Addr) (len cap lo hi : Nat) (bs : List UInt8) (hlo : 4 ≤ lo) (hlh : lo ≤ hi) (hhi : hi ≤ 4096)
    (w : World) (hB1 : w.cell? ⟨B1, 0, none⟩ = some (.slice A len cap)) (hB2 : w.cell? ⟨B2, 0, none⟩ = some (.int .i64 hi)) (hB3 : w.cell? ⟨B3, 0, none⟩ = some (.int .i64 lo))
    (l1 : S B1) (l2 : S B2) (l3 : S B3) (hr : Rd w 1 A len (bs.map byteV)) (hrn : ∀ b off, 0 < len → A = some ⟨b, off, none⟩ → S b) :
    SeqStopsK Fence.wide n Try.prog 30 #[.pointer (some ⟨B1, 0, none⟩), .pointer (some ⟨B2, 0, none⟩), .pointer (some ⟨B3, 0, none⟩)]
      (fun x : Part bs => #[Value.agg #[.int .i64 (x.1.1 : Int), .int .i64 (x.1.2 : Int)]]) (KeptIn S) (fun ys => ys.map (·.1) = blocks bs lo hi) (fun _ => True) len w :=
  fun l J Jx W hW _ _ hY h0 =>
    all1_in n hn l B1 B2 B3 S A len cap lo hi bs hlo hlh hhi J Jx hY W ((hW.cell (World.block_lt_of_cell? w _ hB1)).trans hB1) ((hW.cell (World.block_lt_of_cell? w _ hB2)).trans hB2) ((hW.cell (World.block_lt_of_cell? w _ hB3)).trans hB3)
      l1 l2 l3 (hr.below hW) hrn h0


theorem Rd.lt {w : World} {sz n : Nat} {A : Option Addr} {xs : List Value} (h : Rd w sz A n xs) (hsz : 0 < sz) (hn : 0 < n) {b off : Nat} (hA : A = some ⟨b, off, none⟩) : b < w.heap.size := by
  obtain ⟨b', off', e, hc⟩ := h.2.2 hn
  rw [hA] at e
  cases e
  have hl : 0 < xs.length := by rw [h.1]; exact Nat.mul_pos hn hsz
  exact World.block_lt_of_cell? w ⟨b, off + 0, none⟩ (hc 0 xs[0] (List.getElem?_eq_getElem hl))

theorem info48 : (Try.prog.info? 48).map (fun i => (i.zero, i.size, i.bytes)) = some (some (.agg #[.int .i64 0, .int .i64 0]), 2, 16) := by kernel_rfl
theorem info3 : (Try.prog.info? 3).map (fun i => (i.zero, i.size, i.bytes)) = some (some (.int .i64 0), 1, 8) := by kernel_rfl

set_option maxRecDepth 100000 in
set_option maxHeartbeats 2000000 in
/-- Blocks of limits: the list of the blocks, in new memory. -/
theorem Blocks_in (n : Nat) (hn : 3 ≤ n) (A : Option Addr) (len cap lo hi : Nat) (bs : List UInt8) (hlo : 4 ≤ lo) (hlh : lo ≤ hi) (hhi : hi ≤ 4096) (w : World) (hr : Rd w 1 A len (bs.map byteV)) (hlen : len ≤ 8796093022208) :
    CallsIn Fence.wide n Try.prog 25 #[.slice A len cap, .int .i64 lo, .int .i64 hi] w fun e W' => ∃ A' n' c', e = .returned (.tuple #[.slice A' n' c', .int .i64 0]) ∧
      Rd W' 2 A' n' (((blocks bs lo hi).map natPair).flatMap twoV) ∧ Below w.heap.size w W' := by
  have h1 : 1 ≤ n := by omega
  obtain ⟨i0, hi0, hz0, hz1, hz2⟩ := info_parts info48
  refine callsIn_of_wp_marks Try.func25 rfl trivial ?_ rfl
  simp only [Try.ntmps25, List.size_toArray, List.length_cons, List.length_nil, Nat.reduceAdd, Nat.reduceSub, Array.replicate_succ, Array.replicate_zero, List.push_toArray, List.append_toArray, List.nil_append, List.cons_append]
  gi_wp2_with (first | (refine ⟨trivial, ?_⟩; gi_at_call 26; refine (callsIn_wide.2 (limits_true lo hi hlo hlh hhi _)).mono ?_; rintro e w' ⟨rfl, rfl⟩) | (refine ⟨trivial, ?_⟩; gi_at_call 27; refine (all_in (n - 1) _ _ _ _ _ _).mono ?_; rintro e w' ⟨rfl, rfl⟩))
  have bO := (((Boxed.new w 33 (.slice none 0 0)).alloc (.cells #[.slice A len cap] 22)).alloc (.cells #[.int .i64 lo] 3)).alloc (.cells #[.int .i64 hi] 3)
  have b1 := ((Boxed.new (w.alloc (.cells #[.slice none 0 0] 33)) 22 (.slice A len cap)).alloc (.cells #[.int .i64 lo] 3)).alloc (.cells #[.int .i64 hi] 3)
  have b2 := (Boxed.new ((w.alloc (.cells #[.slice none 0 0] 33)).alloc (.cells #[.slice A len cap] 22)) 3 (.int .i64 lo)).alloc (.cells #[.int .i64 hi] 3)
  have b3 := Boxed.new (((w.alloc (.cells #[.slice none 0 0] 33)).alloc (.cells #[.slice A len cap] 22)).alloc (.cells #[.int .i64 lo] 3)) 3 (.int .i64 hi)
  simp only [World.size_alloc] at b1 b2 b3
  have hB0 : Below w.heap.size w ((((w.alloc (.cells #[.slice none 0 0] 33)).alloc (.cells #[.slice A len cap] 22)).alloc (.cells #[.int .i64 lo] 3)).alloc (.cells #[.int .i64 hi] 3)) :=
    ((((Below.refl _ w).alloc (Nat.le_refl _) _).alloc (by simp) _).alloc (by simp; omega) _).alloc (by simp; omega) _
  have hsz : ((((w.alloc (.cells #[.slice none 0 0] 33)).alloc (.cells #[.slice A len cap] 22)).alloc (.cells #[.int .i64 lo] 3)).alloc (.cells #[.int .i64 hi] 3)).heap.size = w.heap.size + 4 := by simp
  obtain ⟨W0, hW0⟩ : ∃ W0, (((w.alloc (.cells #[.slice none 0 0] 33)).alloc (.cells #[.slice A len cap] 22)).alloc (.cells #[.int .i64 lo] 3)).alloc (.cells #[.int .i64 hi] 3) = W0 := ⟨_, rfl⟩
  rw [hW0] at bO b1 b2 b3 hB0 hsz ⊢
  clear hW0
  have hS : ∀ k, (k < W0.heap.size ∧ k ≠ w.heap.size) → k < W0.heap.size := fun k hk => hk.1
  refine wpIn_rangeFunc_ownH rfl h1 (gf := 30) (lb := #[.pointer (some ⟨w.heap.size + 1, 0, none⟩), .pointer (some ⟨w.heap.size + 1 + 1 + 1, 0, none⟩), .pointer (some ⟨w.heap.size + 1 + 1, 0, none⟩)]) rfl trivial (enters_of Try.func30 (by kernel_rfl) rfl)
    (all_stops (n - 1) (by omega) (w.heap.size + 1) (w.heap.size + 1 + 1 + 1) (w.heap.size + 1 + 1) (fun k => k < W0.heap.size ∧ k ≠ w.heap.size) A len cap lo hi bs hlo hlh hhi W0 b1.cell b3.cell b2.cell
      ⟨by omega, by omega⟩ ⟨by omega, by omega⟩ ⟨by omega, by omega⟩ (hr.below hB0) (fun b off hl hA => by have := hr.lt (by omega) hl hA; exact ⟨by omega, by omega⟩))
    keptK_t (keptK_b hS) (Below.refl _ _) (fun _ => rfl)
    (fun pre W => (∃ v, Boxed W w.heap.size 33 v ∧ W.ownsRow W0.heap.size 48 2 v pre.length (pre.flatMap (fun x => twoV (natPair x.1))) ∧ True) ∧ KeptIn (fun k => k < W0.heap.size ∧ k ≠ w.heap.size) W0 W)
    (fun _ _ _ => False)
    (OwnFrom.and (Own.from (holdsRow_own W0.heap.size w.heap.size 33 48 2 (fun (pre : List (Part bs)) => pre.length) (fun pre => pre.flatMap (fun x => twoV (natPair x.1))) (fun _ _ => True)) _) (ownFrom_keptIn hS hS))
    (fun _ _ _ _ _ hs _ _ => hs)
    ⟨⟨_, bO, World.ownsRow_nil _ _ _ _, trivial⟩, KeptIn.refl _ _⟩
    (fun x a' W => ∃ Bx, W0.heap.size ≤ Bx ∧ Blk W Bx 48 #[.int .i64 (x.1.1 : Int), .int .i64 (x.1.2 : Int)] ∧ a' = { tmps := #[.slice A len cap, .int .i64 lo, .int .i64 hi, undef, undef, undef, .slice none 0 0, .int .i64 0, .pointer (some ⟨w.heap.size, 0, none⟩), .pointer (some ⟨Bx, 0, none⟩), .int .i64 lo, .int .i64 hi, .bool true, .bool false, .slice A len cap, .int .i64 lo, .int .i64 hi, .func (.func 30) #[] #[.pointer (some ⟨w.heap.size + 1, 0, none⟩), .pointer (some ⟨w.heap.size + 1 + 1 + 1, 0, none⟩), .pointer (some ⟨w.heap.size + 1 + 1, 0, none⟩)], .agg #[.int .i64 (x.1.1 : Int), .int .i64 (x.1.2 : Int)], undef, undef, undef, undef, undef], defers := [] })
    (fun x a' _ X Y row hs hg hr => by obtain ⟨Bx, h1, h2, h3⟩ := hs; exact ⟨Bx, h1, blk_own Bx 48 (fun (_ : Unit) => #[Value.int .i64 (x.1.1 : Int), .int .i64 (x.1.2 : Int)]) () X Y row h2 hg (fun r e => (hr r e).2), h3⟩)
    ?assign ?body ?done ?stop
  case assign =>
    rintro l pre x W K ⟨⟨v, bv, hrow, _⟩, hK0⟩ hK
    gi_wp2
    exact hK _ _ ((KeepsOthers.alloc _ _).from _) ((KeptIn.refl _ W).alloc (fun k hk => by have := hK0.size; omega) _)
      ⟨⟨v, bv.alloc _, hrow.alloc _, trivial⟩, hK0.alloc (fun k hk => by have := hK0.size; omega) _⟩ ⟨W.heap.size, hK0.size, Blk.new W 48 _, rfl⟩
  case body =>
    rintro l pre x a' W hl ⟨r, hr⟩ ⟨⟨v, bv, hrow, _⟩, hK0⟩ ⟨Bx, hBx, bX, rfl⟩ hlt
    have cv := bv.cell
    have cx1 := bX.cell 0
    have cx2 := bX.cell 1
    have hsW := hK0.size
    gi_wp2_with (gi_at_builtin; refine wpListIn_append_own _ rfl _ _ 33 rfl W0.heap.size 48 i0 (.agg #[.int .i64 0, .int .i64 0]) 2 16 Try.underlying33 hi0 hz0 hz1 hz2 rfl (by decide) _ _ _ rfl (hrow.alloc _) ⟨W.heap.size, 0, none⟩ 1 1 [.int .i64 (x.1.1 : Int), .int .i64 (x.1.2 : Int)] rfl rfl (cells_new _ [.int .i64 (x.1.1 : Int), .int .i64 (x.1.2 : Int)] _) (by simp [Value.oneCell']) (by unfold maxLen; omega) (by omega) (by simp; omega) ?_; intro v' w1 hown' hgrow _; obtain ⟨g', cap', rfl⟩ := ownsRow_succ hown'; obtain ⟨hv1, hv2, hr2, hk2, hb2⟩ := boxed_append bv hrow hsW (by omega) hown' hgrow; have hc1 := hv1.cell; have hf1 := hv1.frozen)
    exact ⟨hk2.from _, hb2, ⟨_, hv2, by simpa [List.flatMap_append, twoV, natPair] using hr2, trivial⟩, hK0.trans hb2⟩
  case done =>
    rintro D ys W hD hys ⟨⟨v, bv, hrow, _⟩, hK0⟩ hK
    have Hys := Lib.hid hys
    clear hys
    have cv := bv.cell
    gi_wp2
    refine ⟨by simp, .inl ⟨_, _, rfl, run_takeDeferred hK, ?_⟩⟩
    obtain ⟨A', c', rfl⟩ := ownsRow_slice hrow
    refine ⟨_, results_tmp2 rfl _ _ _, A', _, c', rfl, by rw [← Hys.out, List.flatMap_map, List.flatMap_map]; exact Rd.of_own (ownsRow_putObj hrow _ hK rfl), ?_⟩
    exact hB0.trans (((hK0.below (B := w.heap.size) (fun k hk => ⟨by omega, by omega⟩)).mono (Nat.le_refl _)).trans (belowK_b (w := w) (Nat.le_refl _) W D _ _ (by omega) hK rfl rfl))
  case stop =>
    rintro D c pre W _ _ h _
    exact h.elim

end Go.Proofs.Ytdhibimhohkmoaa
