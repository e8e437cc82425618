/- The reference's Blocks hands back the blocks. -/
import Derived.Test.YtdhibimhohkmoaaBlockRef
namespace Go.Proofs.Ytdhibimhohkmoaa
open Go.RowKit

/-- What is owned is owned after a call. -/
theorem own_below {w w' : World} {base : Nat} {e : TypeId} {sz n : Nat} {v : Value} {xs : List Value} (h : w.ownsRow base e sz v n xs) (hb : Below w.heap.size w w') : w'.ownsRow base e sz v n xs :=
  h.kept (⟨hb.os, hb.tape, hb.output, hb.size, fun k hk _ => hb.block k hk⟩ : w.grownBy w' none) (by cases v.ownBlock <;> simp)
/-- A new empty row is owned. -/
theorem ownsRow_empty {w : World} {base : Nat} (e : TypeId) (sz : Nat) (hb : base ≤ w.heap.size) : (w.alloc (.cells #[] e)).ownsRow base e sz (.slice (some ⟨w.heap.size, 0, none⟩) 0 0) 0 [] :=
  World.ownsRow_made w #[] 0 hb (by unfold maxLen; omega) (by simp)

set_option maxRecDepth 100000 in
set_option maxHeartbeats 2000000 in
theorem RBlocks_any (A : Option Addr) (len cap lo hi : Nat) (bs : List UInt8) (hlo : 4 ≤ lo) (hlh : lo ≤ hi) (hhi : hi ≤ 4096) (w : World) (hr : Rd w 1 A len (bs.map byteV)) (hlen : len ≤ 8796093022208) :
    Calls Try.prog 15 #[.slice A len cap, .agg #[.int .i64 lo, .int .i64 hi]] w fun e W' => ∃ A' n' c', e = .returned (.tuple #[.slice A' n' c', .int .i64 0]) ∧
      Rd W' 2 A' n' (((blocks bs lo hi).map natPair).flatMap twoV) ∧ Below w.heap.size w W' := by
  have hle := hr.le
  have hl := hr.len1
  subst hl
  obtain ⟨i0, hi0, hz0, hz1, hz2⟩ := info_parts info48'
  go_enter Try.func15, Try.ntmps15
  go_wp2_with (go_at_call 28; refine (Right_true lo hi hlo hlh hhi _).mono ?_; rintro e w1 ⟨rfl, hb1⟩)
  have b0 := (Blk.new w 27 #[.int .i64 lo, .int .i64 hi]).below hb1 (by simp)
  have hB1 : Below w.heap.size w w1 := ((Below.refl _ _).alloc (Nat.le_refl _) _).trans (hb1.mono (by simp))
  have hs1 : w.heap.size + 1 ≤ w1.heap.size := by have := hb1.size; simp at this; omega
  have hown := ownsRow_empty (w := w1) (base := w.heap.size + 1) 48 2 hs1
  go_loopw [6, 7] (fun v p wr => ∃ (k : Nat) (pre : List (Nat × Nat)), k ≤ bs.length ∧ p = .int .i64 k ∧ wr.ownsRow (w.heap.size + 1) 48 2 v pre.length (pre.flatMap (fun r => twoV (natPair r))) ∧ pre.length ≤ k ∧
      pre ++ blks bs lo hi (bs.length - k) k k = blocks bs lo hi ∧ Blk wr w.heap.size 27 #[.int .i64 lo, .int .i64 hi] ∧ Below w.heap.size w wr) (fun _ p _ => bs.length - (intOf p).toNat)
  case atStart => exact ⟨0, [], by omega, rfl, hown, by simp, by simp [blocks], b0.alloc _, hB1.alloc (by omega) _⟩
  case round =>
    obtain ⟨k, pre, hk, rfl, hrow, hpl, hpre, hb, hB⟩ := hrel
    have hsz := hB.size
    have hlt1 := hb.lt
    by_cases hlt : k < bs.length
    · have he := endAt_le bs lo hi k hlt
      have hst := blks_step bs lo hi k hlt
      rw [hst] at hpre
      have Hpre := Lib.hid hpre
      have c0 := hb.cell 0
      have c1 := hb.cell 1
      have hr1 := hr.below hB
      obtain ⟨e, hee⟩ : ∃ e, endAt bs lo hi k = e := ⟨_, rfl⟩
      rw [hee] at he
      have Hee := Lib.hid hee
      clear hpre hst hee
      go_wp2_with fail
      refine (End_any A bs.length cap k lo hi bs hlt hlo hlh hhi _ hr1).mono ?_
      rw [Hee.out]
      rintro e' w2 ⟨rfl, hb2⟩
      have hrow2 := own_below hrow hb2
      have hs2 := hb2.size
      go_wp2_with (at_builtin; refine wpList_append_own _ rfl _ _ 33 rfl (w.heap.size + 1) 48 i0 (.agg #[.int .i64 0, .int .i64 0]) 2 16 Try.underlying33 hi0 hz0 hz1 hz2 rfl (by decide) _ _ _ rfl (hrow2.alloc _) ⟨w2.heap.size, 0, none⟩ 1 1 [.int .i64 (k : Int), .int .i64 (e : Int)] rfl rfl (cells_new _ [.int .i64 (k : Int), .int .i64 (e : Int)] _) (by simp [Value.oneCell']) (by unfold maxLen; omega) (by omega) (by simp; omega) ?_; intro v' w3 hown' hgrow _)
      obtain ⟨g', cap', rfl⟩ := ownsRow_succ hown'
      go_wp2
      have hB3 : Below w.heap.size w w3 := ((hB.trans (hb2.mono hsz)).alloc (by omega) _).grown hgrow (by simp; omega) (fun k' e' => by have := (hrow2.lt k' e').1; omega)
      refine ⟨⟨e, pre ++ [(k, e)], by omega, rfl, ?_, by simp; omega, ?_, ((hb.below hb2 hlt1).alloc _).kept hgrow (fun e' => by have := (hrow2.lt _ e'.symm).1; omega), hB3⟩, by simp [intOf]; omega⟩
      · simpa [twoV, natPair, List.flatMap_append] using hown'
      · rw [← Hpre.out, Hee.out]; simp
    · obtain rfl : k = bs.length := by omega
      rw [Nat.sub_self, blks, List.append_nil] at hpre
      have Hpre := Lib.hid hpre
      clear hpre
      go_wp2
      go_ret2
      obtain ⟨A2, c2, rfl⟩ := ownsRow_slice hrow
      exact ⟨A2, _, c2, rfl, by rw [← Hpre.out, List.flatMap_map]; exact Rd.of_own hrow, hB⟩

set_option maxHeartbeats 400000 in
theorem RBlocks_bad (A : Option Addr) (len cap : Nat) (a b : Int) (h : ¬ (4 ≤ a ∧ a ≤ b ∧ b ≤ 4096)) (w : World) :
    Calls Try.prog 15 #[.slice A len cap, .agg #[.int .i64 a, .int .i64 b]] w fun e W' => e = .returned (.tuple #[.slice none 0 0, .int .i64 1]) ∧ Below w.heap.size w W' := by
  have H := Lib.hid h
  clear h
  go_enter Try.func15, Try.ntmps15
  go_wp2_with (go_at_call 28; refine (Right_false a b H.out _).mono ?_; rintro e w1 ⟨rfl, hb1⟩)
  go_ret2
  exact ⟨rfl, ((Below.refl _ _).alloc (Nat.le_refl _) _).trans (hb1.mono (by simp))⟩

end Go.Proofs.Ytdhibimhohkmoaa
