/- Package fetch: Cut. -/
import Derived.Test.YthlecmmngldodaaDoorF14
namespace Go.Proofs.YthlecmmngldodaaDoor
section
open Go.RowKit Go.Shelf

attribute [local go_sem] Oper.semAt_some

theorem KeptIn.unset {S0 : Nat → Prop} {w W : World} {B : Nat} (h : KeptIn S0 w W) (hB : ¬ S0 B) (u : Value) : KeptIn S0 w (W.setCell ⟨B, 0, none⟩ u) := h.setAt (p := ⟨B, 0, none⟩) hB u

theorem Cut_bad (A : Option Addr) (len cap : Nat) (w : World) (hl : len ≤ 9223372036854775807) (hb : len = 0 ∨ 262144 < len) :
    Calls Tryd.prog 13 #[.slice A len cap] w fun e w' => e = .returned (.tuple #[.slice none 0 0, .int .i64 (if len = 0 then 1 else 2)]) ∧ w' = w := by
  by_cases h0 : len = 0
  · subst h0
    go_enter Tryd.func13, Tryd.ntmps13
    go_wp2_with fail
    go_ret2
    exact ⟨rfl, rfl⟩
  · have h1 : 262144 < len := by omega
    rw [if_neg h0]
    have hd0 : ((len : Int) == 0) = false := by rw [beq_eq_false_iff_ne]; omega
    have hd1 : decide ((262144 : Int) < (len : Int)) = true := decide_eq_true (by omega)
    have hd2 : decide (262144 < len) = true := decide_eq_true h1
    clear h0 hb
    go_enter Tryd.func13, Tryd.ntmps13
    go_wp2_with fail
    go_ret2
    exact ⟨rfl, rfl⟩

theorem flat_one {α β : Type} (f : α → β) (l : List α) : l.flatMap (fun x => [f x]) = l.map f := by
  induction l with
  | nil => rfl
  | cons y t ih => rw [List.flatMap_cons, ih]; rfl
set_option maxRecDepth 100000 in
set_option maxHeartbeats 1000000 in
theorem Cut_in (n : Nat) (hn : 3 ≤ n) (b off len cap : Nat) (bs : List UInt8) (w : World) (hr : Rd w 1 (some ⟨b, off, none⟩) len (bs.map byteV)) (h0 : 0 < len) (hlen : len ≤ 262144) (hcap : len ≤ cap) :
    CallsIn Fence.wide n Tryd.prog 13 #[.slice (some ⟨b, off, none⟩) len cap] w fun e w' => ∃ A' c', e = .returned (.tuple #[.slice A' ((len + 1023) / 1024) c', .int .i64 0]) ∧ (len + 1023) / 1024 ≤ c' ∧ Lst w' A' ((len + 1023) / 1024) (cutL bs) ∧ Below w.heap.size w w' := by
  have h1n : 1 ≤ n := by omega
  have hbl := hr.len1
  have hbs : b < w.heap.size := hr.lt (by omega) h0 rfl
  obtain ⟨i0, hi0, hz0, hz1, hz2⟩ := info_parts info22
  have hd0 : ((len : Int) == 0) = false := by rw [beq_eq_false_iff_ne]; omega
  have hd1 : decide ((262144 : Int) < (len : Int)) = false := decide_eq_false (by omega)
  have hd2 : decide (262144 < len) = false := decide_eq_false (by omega)
  refine callsIn_of_wp_marks Tryd.func13 rfl trivial ?_ rfl
  simp only [Tryd.ntmps13, List.size_toArray, List.length_cons, List.length_nil, Nat.reduceAdd, Nat.reduceSub, Array.replicate_succ, Array.replicate_zero, List.push_toArray, List.append_toArray, List.nil_append, List.cons_append]
  gi_wp2_with (refine ⟨trivial, ?_⟩; gi_at_call 38; refine (pieces_in (n - 1) _ _ _ _).mono ?_; rintro e w' ⟨rfl, rfl⟩)
  have bO := (Boxed.new w 27 (.slice none 0 0)).alloc (.cells #[.slice (some ⟨b, off, none⟩) len cap] 22)
  have bA := Boxed.new (w.alloc (.cells #[.slice none 0 0] 27)) 22 (.slice (some ⟨b, off, none⟩) len cap)
  simp only [World.size_alloc] at bO bA
  have hB0 : Below w.heap.size w ((w.alloc (.cells #[.slice none 0 0] 27)).alloc (.cells #[.slice (some ⟨b, off, none⟩) len cap] 22)) :=
    ((Below.refl _ w).alloc (Nat.le_refl _) _).alloc (by simp) _
  have hsz : ((w.alloc (.cells #[.slice none 0 0] 27)).alloc (.cells #[.slice (some ⟨b, off, none⟩) len cap] 22)).heap.size = w.heap.size + 2 := by simp
  obtain ⟨W0, hW0⟩ : ∃ W0, (w.alloc (.cells #[.slice none 0 0] 27)).alloc (.cells #[.slice (some ⟨b, off, none⟩) len cap] 22) = W0 := ⟨_, rfl⟩
  rw [hW0] at bO bA hB0 hsz ⊢
  clear hW0
  have hS : ∀ k, (k < W0.heap.size ∧ k ≠ w.heap.size) → k < W0.heap.size := fun k hk => hk.1
  have hS0 : ∀ k, (k < W0.heap.size ∧ k ≠ w.heap.size ∧ k ≠ w.heap.size + 1) → k < W0.heap.size := fun k hk => hk.1
  refine range_var rfl h1n (gf := 56) (lb := #[.pointer (some ⟨w.heap.size + 1, 0, none⟩)]) rfl trivial (enters_of Tryd.func56 (by kernel_rfl) rfl)
    (encs := fun x : Pb len => #[pbV b off len x]) (Kp := KeptIn (fun k => k < W0.heap.size ∧ k ≠ w.heap.size)) (Sd := fun ys => ys.map (·.1) = List.range ((len + 1023) / 1024)) (N := len) (B := w.heap.size + 1) (by omega)
    (fun l J W hW _ hJB hY hJ0 => pieces1_in (n - 1) (by omega) l (w.heap.size + 1) (fun k => k < W0.heap.size ∧ k ≠ w.heap.size) b off len cap (by omega) hcap h0 J hJB hY W ((hW.block _ (by omega)).trans bA) ⟨by omega, by omega⟩ hJ0)
    keptK_t (keptK_b hS) (fun _ => rfl)
    (fun pre W => (∃ v, Boxed W w.heap.size 27 v ∧ W.ownsRow W0.heap.size 22 1 v pre.length (pre.flatMap (fun x => [pbV b off len x])) ∧ True) ∧ KeptIn (fun k => k < W0.heap.size ∧ k ≠ w.heap.size ∧ k ≠ w.heap.size + 1) W0 W)
    (OwnFrom.and (Own.from (holdsRow_own W0.heap.size w.heap.size 27 22 1 (fun (pre : List (Pb len)) => pre.length) (fun pre => pre.flatMap (fun x => [pbV b off len x])) (fun _ _ => True)) _) (ownFrom_keptIn hS0 hS0))
    (fun s X u hs => by
      obtain ⟨⟨v, bv, hrow, _⟩, hk⟩ := hs
      refine ⟨⟨v, bv.other (by omega) u, hrow.kept (grownBy_setCell' X _ u) ?_, trivial⟩, hk.unset (by omega) u⟩
      cases hv : v.ownBlock with
      | none => exact .inl rfl
      | some g => exact .inr (fun e => by have := (hrow.lt g hv).1; cases e; omega))
    ⟨⟨_, bO, World.ownsRow_nil _ _ _ _, trivial⟩, KeptIn.refl _ _⟩
    (fun x a' _ => a' = { tmps := #[.slice (some ⟨b, off, none⟩) len cap, undef, .slice none 0 0, .int .i64 0, .pointer (some ⟨w.heap.size, 0, none⟩), pbV b off len x, .bool false, .slice (some ⟨b, off, none⟩) len cap, .int .i64 (len : Int), .bool false, .bool false, .slice (some ⟨b, off, none⟩) len cap, .int .i64 (len : Int), .bool false, .slice (some ⟨b, off, none⟩) len cap, .func (.func 56) #[] #[.pointer (some ⟨w.heap.size + 1, 0, none⟩)], pbV b off len x, undef, undef, undef, undef, undef], defers := [] })
    (fun x a' _ X Y row hs hg hr => hs)
    ?assign ?body ?done
  case assign =>
    rintro l pre x W K ⟨⟨v, bv, hrow, _⟩, hK0⟩ hK
    gi_wp2
    exact hK _ _ (KeepsFrom.refl _ _) (KeptIn.refl _ W) ⟨⟨v, bv, hrow, trivial⟩, hK0⟩ rfl
  case body =>
    rintro l pre x a' W ⟨⟨v, bv, hrow, _⟩, hK0⟩ rfl hlt
    have cv := bv.cell
    have hsW := hK0.size
    have Hr := Lib.hid hr
    have HA := Lib.hid bA
    have Hbl := Lib.hid hbl
    clear hr bA hbl
    obtain ⟨pv, hpv⟩ : ∃ pv, pv = pbV b off len x := ⟨_, rfl⟩
    have hpo : pv.oneCell' = true := by rw [hpv]; rfl
    have hpe : ∃ A n c, pv = .slice A n c := ⟨_, _, _, hpv⟩
    rw [← hpv]
    have Hpv := Lib.hid hpv
    clear hpv
    obtain ⟨pa, pn, pc, rfl⟩ := hpe
    gi_wp2_with (gi_at_builtin; refine wpListIn_append_own _ rfl _ _ 27 rfl W0.heap.size 22 i0 (.slice none 0 0) 1 24 Tryd.underlying27 hi0 hz0 hz1 hz2 rfl (by decide) _ _ _ rfl (hrow.alloc _) ⟨W.heap.size, 0, none⟩ 1 1 [.slice pa pn pc] rfl rfl (cells_new _ [.slice pa pn pc] _) (by simp [Value.oneCell']) (by unfold maxLen; omega) (by omega) (by simp; omega) ?_; intro v' w1 hown' hgrow _; obtain ⟨g', cap', rfl⟩ := ownsRow_succ hown'; obtain ⟨hv1, hv2, hr2, hk2, hb2⟩ := boxed_append bv hrow hsW (by omega) hown' hgrow; have hc1 := hv1.cell; have hf1 := hv1.frozen)
    refine ⟨hk2.from _, hb2, ⟨_, hv2, ?_, trivial⟩, hK0.trans (hb2.mono fun k hk => ⟨hk.1, hk.2.1⟩)⟩
    rw [List.length_append, List.flatMap_append, List.flatMap_cons, List.flatMap_nil, List.append_nil, ← Hpv.out]
    exact hr2
  case done =>
    rintro D ys W hD hys ⟨⟨v, bv, hrow, _⟩, hK0⟩ hK
    have Hys := Lib.hid hys
    have Hr := Lib.hid hr
    have Hbl := Lib.hid hbl
    clear hys hr bA hbl
    have cv := bv.cell
    gi_wp2
    refine ⟨by simp, .inl ⟨_, _, rfl, run_takeDeferred hK, ?_⟩⟩
    obtain ⟨A', c', rfl⟩ := ownsRow_slice hrow
    have hyl : ys.length = (len + 1023) / 1024 := by have := congrArg List.length Hys.out; simpa using this
    have hcc := ownsRow_cap hrow
    have hbel : Below w.heap.size w (W.putObj D (.deferred none)) := hB0.trans (((hK0.below (B := w.heap.size) (fun k hk => ⟨by omega, by omega, by omega⟩)).mono (Nat.le_refl _)).trans (belowK_b (w := w) (Nat.le_refl _) W D _ _ (by omega) hK rfl rfl))
    have hRd := Rd.of_own (ownsRow_putObj hrow (.deferred none) hK rfl)
    rw [hyl] at hcc hRd
    refine ⟨_, results_tmp2 rfl _ _ _, A', c', by simp [hyl], hcc, ⟨ys.map fun x => ⟨some ⟨b, off + 1024 * x.1, none⟩, pbN len x.1, pbN len x.1⟩, ?_, by rw [cutL_len, Hbl.out], fun k v c hv hc => ?_⟩, hbel⟩
    · rw [List.map_map]
      rw [show ys.flatMap (fun x => [pbV b off len x]) = ys.map (pbV b off len) from flat_one _ _] at hRd
      exact hRd
    · have hk : k < ys.length := by
        have := (List.getElem?_eq_some_iff.1 hv).1
        simpa using this
      have hyk : (ys[k]).1 = k := by
        have h1 := congrArg (·[k]?) Hys.out
        simp only [List.getElem?_map, List.getElem?_eq_getElem hk, Option.map_some, List.getElem?_range (show k < (len + 1023) / 1024 by omega)] at h1
        exact Option.some.inj h1
      rw [List.getElem?_map, List.getElem?_eq_getElem hk, Option.map_some] at hv
      cases hv
      have hlt := (ys[k]).2
      rw [hyk] at hlt ⊢
      unfold cutL at hc
      rw [Hbl.out, List.getElem?_map, List.getElem?_range (by omega), Option.map_some] at hc
      cases hc
      have hpt := Hr.out.part (i := 1024 * k) (j := 1024 * k + pbN len k) (by omega) (by unfold pbN; omega)
      rw [show 1024 * k + pbN len k - 1024 * k = pbN len k from by omega] at hpt
      have htk : bs.take (1024 * k + pbN len k) = bs.take (1024 * k + 1024) := by
        unfold pbN
        rcases (by omega : len - 1024 * k ≤ 1024 ∨ 1024 < len - 1024 * k) with h | h
        · rw [show 1024 * k + min 1024 (len - 1024 * k) = len from by omega, List.take_of_length_le (by rw [Hbl.out]; omega), List.take_of_length_le (by rw [Hbl.out]; omega)]
        · rw [show min 1024 (len - 1024 * k) = 1024 from by omega]
      rw [htk] at hpt
      exact ⟨hpt.below hbel, Nat.le_refl _⟩

theorem Cut_any (A : Option Addr) (len cap : Nat) (bs : List UInt8) (w : World) (hr : Rd w 1 A len (bs.map byteV)) (h0 : 0 < len) (hlen : len ≤ 262144) (hcap : len ≤ cap) :
    Calls Tryd.prog 13 #[.slice A len cap] w fun e w' => ∃ A' c', e = .returned (.tuple #[.slice A' ((len + 1023) / 1024) c', .int .i64 0]) ∧ (len + 1023) / 1024 ≤ c' ∧ Lst w' A' ((len + 1023) / 1024) (cutL bs) ∧ Below w.heap.size w w' := by
  obtain ⟨b, off, rfl, _⟩ := hr.2.2 h0
  exact callsIn_wide.1 (Cut_in 3 (Nat.le_refl _) b off len cap bs w hr h0 hlen hcap)
end
end Go.Proofs.YthlecmmngldodaaDoor
