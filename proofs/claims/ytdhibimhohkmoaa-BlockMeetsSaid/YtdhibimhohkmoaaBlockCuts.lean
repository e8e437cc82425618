/- Package block: Cuts hands back the cuts; refusals. -/
import Derived.Test.YtdhibimhohkmoaaBlockFns
namespace Go.Proofs.Ytdhibimhohkmoaa
open Go.RowKit Go.Shelf

attribute [local go_sem] Oper.semAt_some

/-- The cuts: the ends of all blocks but the last one. -/
def cutsB (bs : List UInt8) (lo hi : Nat) : List Int := ((blocks bs lo hi).filter fun r => decide (r.2 < bs.length)).map fun r => (r.2 : Int)
def cutL (bs : List UInt8) (pre : List (Part bs)) : List Int := (pre.filter fun x => decide (x.1.2 < bs.length)).map fun x => (x.1.2 : Int)
theorem cutL_length (bs : List UInt8) (pre : List (Part bs)) : (cutL bs pre).length ≤ pre.length := by
  unfold cutL
  rw [List.length_map]
  exact List.length_filter_le _ _
theorem cutL_yes (bs : List UInt8) (pre : List (Part bs)) (x : Part bs) (h : x.1.2 < bs.length) : cutL bs (pre ++ [x]) = cutL bs pre ++ [(x.1.2 : Int)] := by
  simp [cutL, List.filter_append, h]
theorem cutL_no (bs : List UInt8) (pre : List (Part bs)) (x : Part bs) (h : ¬ x.1.2 < bs.length) : cutL bs (pre ++ [x]) = cutL bs pre := by
  simp [cutL, List.filter_append, h]
theorem cutL_eq (bs : List UInt8) (pre : List (Part bs)) : ((pre.map (·.1)).filter fun r => decide (r.2 < bs.length)).map (fun r => (r.2 : Int)) = cutL bs pre := by
  unfold cutL
  rw [List.filter_map, List.map_map]
  rfl

set_option maxRecDepth 100000 in
set_option maxHeartbeats 2000000 in
/-- Cuts of limits: the ends of all blocks but the last one. -/
theorem Cuts_in (n : Nat) (hn : 3 ≤ n) (A : Option Addr) (len cap lo hi : Nat) (bs : List UInt8) (hlo : 4 ≤ lo) (hlh : lo ≤ hi) (hhi : hi ≤ 4096) (w : World) (hr : Rd w 1 A len (bs.map byteV)) (hlen : len ≤ 8796093022208) :
    CallsIn Fence.wide n Try.prog 12 #[.slice A len cap, .int .i64 lo, .int .i64 hi] w fun e W' => ∃ A' n' c', e = .returned (.tuple #[.slice A' n' c', .int .i64 0]) ∧
      Rd W' 1 A' n' ((cutsB bs lo hi).map intV) ∧ Below w.heap.size w W' := by
  have h1 : 1 ≤ n := by omega
  obtain ⟨i0, hi0, hz0, hz1, hz2⟩ := info_parts info3
  refine callsIn_of_wp_marks Try.func12 rfl trivial ?_ rfl
  simp only [Try.ntmps12, List.size_toArray, List.length_cons, List.length_nil, Nat.reduceAdd, Nat.reduceSub, Array.replicate_succ, Array.replicate_zero, List.push_toArray, List.append_toArray, List.nil_append, List.cons_append]
  gi_wp2_with (first | (refine ⟨trivial, ?_⟩; gi_at_call 26; refine (callsIn_wide.2 (limits_true lo hi hlo hlh hhi _)).mono ?_; rintro e w' ⟨rfl, rfl⟩) | (refine ⟨trivial, ?_⟩; gi_at_call 27; refine (all_in (n - 1) _ _ _ _ _ _).mono ?_; rintro e w' ⟨rfl, rfl⟩))
  have bA := ((((Boxed.new w 22 (.slice A len cap)).alloc (.cells #[.slice none 0 0] 28)).alloc (.cells #[.slice A len cap] 22)).alloc (.cells #[.int .i64 lo] 3)).alloc (.cells #[.int .i64 hi] 3)
  have bO := (((Boxed.new (w.alloc (.cells #[.slice A len cap] 22)) 28 (.slice none 0 0)).alloc (.cells #[.slice A len cap] 22)).alloc (.cells #[.int .i64 lo] 3)).alloc (.cells #[.int .i64 hi] 3)
  have b1 := ((Boxed.new ((w.alloc (.cells #[.slice A len cap] 22)).alloc (.cells #[.slice none 0 0] 28)) 22 (.slice A len cap)).alloc (.cells #[.int .i64 lo] 3)).alloc (.cells #[.int .i64 hi] 3)
  have b2 := (Boxed.new (((w.alloc (.cells #[.slice A len cap] 22)).alloc (.cells #[.slice none 0 0] 28)).alloc (.cells #[.slice A len cap] 22)) 3 (.int .i64 lo)).alloc (.cells #[.int .i64 hi] 3)
  have b3 := Boxed.new ((((w.alloc (.cells #[.slice A len cap] 22)).alloc (.cells #[.slice none 0 0] 28)).alloc (.cells #[.slice A len cap] 22)).alloc (.cells #[.int .i64 lo] 3)) 3 (.int .i64 hi)
  simp only [World.size_alloc] at bO b1 b2 b3
  have hB0 : Below w.heap.size w (((((w.alloc (.cells #[.slice A len cap] 22)).alloc (.cells #[.slice none 0 0] 28)).alloc (.cells #[.slice A len cap] 22)).alloc (.cells #[.int .i64 lo] 3)).alloc (.cells #[.int .i64 hi] 3)) :=
    (((((Below.refl _ w).alloc (Nat.le_refl _) _).alloc (by simp) _).alloc (by simp; omega) _).alloc (by simp; omega) _).alloc (by simp; omega) _
  have hsz : (((((w.alloc (.cells #[.slice A len cap] 22)).alloc (.cells #[.slice none 0 0] 28)).alloc (.cells #[.slice A len cap] 22)).alloc (.cells #[.int .i64 lo] 3)).alloc (.cells #[.int .i64 hi] 3)).heap.size = w.heap.size + 5 := by simp
  obtain ⟨W0, hW0⟩ : ∃ W0, ((((w.alloc (.cells #[.slice A len cap] 22)).alloc (.cells #[.slice none 0 0] 28)).alloc (.cells #[.slice A len cap] 22)).alloc (.cells #[.int .i64 lo] 3)).alloc (.cells #[.int .i64 hi] 3) = W0 := ⟨_, rfl⟩
  rw [hW0] at bA bO b1 b2 b3 hB0 hsz ⊢
  clear hW0
  have hS : ∀ k, (k < W0.heap.size ∧ k ≠ w.heap.size + 1) → k < W0.heap.size := fun k hk => hk.1
  refine wpIn_rangeFunc_ownH rfl h1 (gf := 30) (lb := #[.pointer (some ⟨w.heap.size + 1 + 1, 0, none⟩), .pointer (some ⟨w.heap.size + 1 + 1 + 1 + 1, 0, none⟩), .pointer (some ⟨w.heap.size + 1 + 1 + 1, 0, none⟩)]) rfl trivial (enters_of Try.func30 (by kernel_rfl) rfl)
    (all_stops (n - 1) (by omega) (w.heap.size + 1 + 1) (w.heap.size + 1 + 1 + 1 + 1) (w.heap.size + 1 + 1 + 1) (fun k => k < W0.heap.size ∧ k ≠ w.heap.size + 1) A len cap lo hi bs hlo hlh hhi W0 b1.cell b3.cell b2.cell
      ⟨by omega, by omega⟩ ⟨by omega, by omega⟩ ⟨by omega, by omega⟩ (hr.below hB0) (fun b off hl hA => by have := hr.lt (by omega) hl hA; exact ⟨by omega, by omega⟩))
    keptK_t (keptK_b hS) (Below.refl _ _) (fun _ => rfl)
    (fun pre W => (∃ v, Boxed W (w.heap.size + 1) 28 v ∧ W.ownsRow W0.heap.size 3 1 v (cutL bs pre).length ((cutL bs pre).map intV) ∧ True) ∧ KeptIn (fun k => k < W0.heap.size ∧ k ≠ w.heap.size + 1) W0 W)
    (fun _ _ _ => False)
    (OwnFrom.and (Own.from (holdsRow_own W0.heap.size (w.heap.size + 1) 28 3 1 (fun (pre : List (Part bs)) => (cutL bs pre).length) (fun pre => (cutL bs pre).map intV) (fun _ _ => True)) _) (ownFrom_keptIn hS hS))
    (fun _ _ _ _ _ hs _ _ => hs)
    ⟨⟨_, bO, World.ownsRow_nil _ _ _ _, trivial⟩, KeptIn.refl _ _⟩
    (fun x a' W => ∃ Bx, W0.heap.size ≤ Bx ∧ Blk W Bx 48 #[.int .i64 (x.1.1 : Int), .int .i64 (x.1.2 : Int)] ∧ a' = { tmps := #[.slice A len cap, .int .i64 lo, .int .i64 hi, .pointer (some ⟨w.heap.size, 0, none⟩), undef, undef, .slice none 0 0, .int .i64 0, .pointer (some ⟨w.heap.size + 1, 0, none⟩), .pointer (some ⟨Bx, 0, none⟩), .int .i64 lo, .int .i64 hi, .bool true, .bool false, .slice A len cap, .int .i64 lo, .int .i64 hi, .func (.func 30) #[] #[.pointer (some ⟨w.heap.size + 1 + 1, 0, none⟩), .pointer (some ⟨w.heap.size + 1 + 1 + 1 + 1, 0, none⟩), .pointer (some ⟨w.heap.size + 1 + 1 + 1, 0, none⟩)], .agg #[.int .i64 (x.1.1 : Int), .int .i64 (x.1.2 : Int)], undef, undef, undef, undef, undef, undef, undef, undef, undef, undef, undef], defers := [] })
    (fun x a' _ X Y row hs hg hr => by obtain ⟨Bx, h1, h2, h3⟩ := hs; exact ⟨Bx, h1, blk_own Bx 48 (fun (_ : Unit) => #[Value.int .i64 (x.1.1 : Int), .int .i64 (x.1.2 : Int)]) () X Y row h2 hg (fun r e => (hr r e).2), h3⟩)
    ?assign ?body ?done ?stop
  case assign =>
    rintro l pre x W K ⟨⟨v, bv, hrow, _⟩, hK0⟩ hK
    gi_wp2
    exact hK _ _ ((KeepsOthers.alloc _ _).from _) ((KeptIn.refl _ W).alloc (fun k hk => by have := hK0.size; omega) _)
      ⟨⟨v, bv.alloc _, hrow.alloc _, trivial⟩, hK0.alloc (fun k hk => by have := hK0.size; omega) _⟩ ⟨W.heap.size, hK0.size, Blk.new W 48 _, rfl⟩
  case body =>
    rintro l pre x a' W hl ⟨r, hr0⟩ ⟨⟨v, bv, hrow, _⟩, hK0⟩ ⟨Bx, hBx, bX, rfl⟩ hlt
    have cv := bv.cell
    have ca := (boxed_keptIn bA hK0 ⟨by omega, by omega⟩).cell
    have cx1 := bX.cell 0
    have cx2 := bX.cell 1
    have hsW := hK0.size
    have hcl := cutL_length bs pre
    have hle := hr.le
    by_cases hx : x.1.2 < len
    · have Hc := Lib.hid (cutL_yes bs pre x (by have := hr.len1; omega))
      clear bA hr
      gi_wp2_with (gi_at_builtin; refine wpListIn_append_own _ rfl _ _ 28 rfl W0.heap.size 3 i0 (.int .i64 0) 1 8 Try.underlying28 hi0 hz0 hz1 hz2 rfl (by decide) _ _ _ rfl (hrow.alloc _) ⟨W.heap.size, 0, none⟩ 1 1 [.int .i64 (x.1.2 : Int)] rfl rfl (cells_new _ [.int .i64 (x.1.2 : Int)] _) (by simp [Value.oneCell']) (by unfold maxLen; omega) (by omega) (by simp; omega) ?_; intro v' w1 hown' hgrow _; obtain ⟨g', cap', rfl⟩ := ownsRow_succ hown'; obtain ⟨hv1, hv2, hr2, hk2, hb2⟩ := boxed_append bv hrow hsW (by omega) hown' hgrow; have hc1 := hv1.cell; have hf1 := hv1.frozen)
      exact ⟨hk2.from _, hb2, ⟨_, hv2, by rw [Hc.out]; simpa [intV] using hr2, trivial⟩, hK0.trans hb2⟩
    · have Hc := Lib.hid (cutL_no bs pre x (by have := hr.len1; omega))
      clear bA hr
      gi_wp2
      exact ⟨KeepsFrom.refl _ _, KeptIn.refl _ _, ⟨v, bv, by rw [Hc.out]; exact hrow, trivial⟩, hK0⟩
  case done =>
    rintro D ys W hD hys ⟨⟨v, bv, hrow, _⟩, hK0⟩ hK
    have Hys := Lib.hid hys
    clear hys
    have cv := bv.cell
    gi_wp2
    refine ⟨by simp, .inl ⟨_, _, rfl, run_takeDeferred hK, ?_⟩⟩
    obtain ⟨A', c', rfl⟩ := ownsRow_slice hrow
    refine ⟨_, results_tmp2 rfl _ _ _, A', _, c', rfl, by rw [cutsB, ← Hys.out, cutL_eq]; exact Rd.of_own (ownsRow_putObj hrow _ hK rfl), ?_⟩
    exact hB0.trans (((hK0.below (B := w.heap.size) (fun k hk => ⟨by omega, by omega⟩)).mono (Nat.le_refl _)).trans (belowK_b (w := w) (Nat.le_refl _) W D _ _ (by omega) hK rfl rfl))
  case stop =>
    rintro D c pre W _ _ h _
    exact h.elim


set_option maxHeartbeats 400000 in
theorem Blocks_bad (A : Option Addr) (len cap : Nat) (a b : Int) (h : ¬ (4 ≤ a ∧ a ≤ b ∧ b ≤ 4096)) (w : World) :
    Calls Try.prog 25 #[.slice A len cap, .int .i64 a, .int .i64 b] w fun e W' => e = .returned (.tuple #[.slice none 0 0, .int .i64 1]) ∧ Below w.heap.size w W' := by
  have H := Lib.hid h
  clear h
  go_enter Try.func25, Try.ntmps25
  go_wp2_with (go_at_call 26; refine (limits_false a b H.out _).mono ?_; rintro e w' ⟨rfl, rfl⟩)
  go_ret2
  exact ⟨rfl, Below.refl _ _⟩

set_option maxHeartbeats 400000 in
theorem Cuts_bad (A : Option Addr) (len cap : Nat) (a b : Int) (h : ¬ (4 ≤ a ∧ a ≤ b ∧ b ≤ 4096)) (w : World) :
    Calls Try.prog 12 #[.slice A len cap, .int .i64 a, .int .i64 b] w fun e W' => e = .returned (.tuple #[.slice none 0 0, .int .i64 1]) ∧ Below w.heap.size w W' := by
  have H := Lib.hid h
  clear h
  go_enter Try.func12, Try.ntmps12
  go_wp2_with (go_at_call 26; refine (limits_false a b H.out _).mono ?_; rintro e w' ⟨rfl, rfl⟩)
  go_ret2
  exact ⟨rfl, (Below.refl _ _).alloc (Nat.le_refl _) _⟩

set_option maxHeartbeats 400000 in
theorem Match_bad (A A' : Option Addr) (len len' cap cap' : Nat) (a b : Int) (h : ¬ (4 ≤ a ∧ a ≤ b ∧ b ≤ 4096)) (w : World) :
    Calls Try.prog 16 #[.slice A len cap, .slice A' len' cap', .int .i64 a, .int .i64 b] w fun e W' => e = .returned (.tuple #[.slice none 0 0, .int .i64 1]) ∧ Below w.heap.size w W' := by
  have H := Lib.hid h
  clear h
  go_enter Try.func16, Try.ntmps16
  go_wp2_with (go_at_call 26; refine (limits_false a b H.out _).mono ?_; rintro e w' ⟨rfl, rfl⟩)
  go_ret2
  exact ⟨rfl, ((Below.refl _ _).alloc (Nat.le_refl _) _).alloc (by simp) _⟩

end Go.Proofs.Ytdhibimhohkmoaa
