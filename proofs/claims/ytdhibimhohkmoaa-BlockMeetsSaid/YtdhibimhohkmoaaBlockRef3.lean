/- The references of chapter 05: cuts, pieces, limits made of two bytes, ranges moved. -/
import Derived.Test.YtdhibimhohkmoaaBlockRef2
import Derived.Test.YtdhibimhohkmoaaBlockCuts
namespace Go.Proofs.Ytdhibimhohkmoaa
open Go.RowKit

theorem info3' : (Try.prog.info? 3).map (fun i => (i.zero, i.size, i.bytes)) = some (some (.int .i64 0), 1, 8) := by kernel_rfl

set_option maxRecDepth 100000 in
set_option maxHeartbeats 2000000 in
theorem RCuts_of (A : Option Addr) (len cap : Nat) (a b err : Int) (rs : List (Nat × Nat)) (w : World) (hn : rs.length ≤ 8796093022208)
    (hc : ∀ W, Below w.heap.size w W → Calls Try.prog 15 #[.slice A len cap, .agg #[.int .i64 a, .int .i64 b]] W fun e W' => ∃ A' n' c', e = .returned (.tuple #[.slice A' n' c', .int .i64 err]) ∧
      Rd W' 2 A' n' ((rs.map natPair).flatMap twoV) ∧ Below W.heap.size W W') :
    Calls Try.prog 13 #[.slice A len cap, .agg #[.int .i64 a, .int .i64 b]] w fun e W' => ∃ A' n' c', e = .returned (.tuple #[.slice A' n' c', .int .i64 err]) ∧
      Rd W' 1 A' n' ((rs.dropLast.map fun r => (r.2 : Int)).map intV) ∧ Below w.heap.size w W' := by
  obtain ⟨i0, hi0, hz0, hz1, hz2⟩ := info_parts info3'
  have HC := Lib.hid hc
  clear hc
  go_enter Try.func13, Try.ntmps13
  go_wp2_with fail
  refine (HC.out _ ((Below.refl _ _).alloc (Nat.le_refl _) _)).mono ?_
  rintro e w1 ⟨A', n', c', rfl, hr, hb1⟩
  have hl := hr.lenf twoV_len (by omega)
  rw [List.length_map] at hl
  subst hl
  have hB1 : Below w.heap.size w w1 := ((Below.refl _ _).alloc (Nat.le_refl _) _).trans (hb1.mono (by simp))
  have hown := ownsRow_empty (w := w1) (base := w1.heap.size) 3 1 (Nat.le_refl _)
  go_wp2
  go_loopw [8, 9] (fun v i wr => ∃ k : Nat, k ≤ rs.length - 1 ∧ i = .int .i64 k ∧ wr.ownsRow w1.heap.size 3 1 v k (((rs.take k).map fun r => (r.2 : Int)).map intV) ∧ Below w1.heap.size w1 wr) (fun _ i _ => rs.length - (intOf i).toNat)
  case atStart => exact ⟨0, by omega, rfl, by simpa using hown, (Below.refl _ _).alloc (Nat.le_refl _) _⟩
  case round =>
    obtain ⟨k, hk, rfl, hrow, hB⟩ := hrel
    have hsz := hB.size
    by_cases hlt : k + 1 < rs.length
    · obtain ⟨b', off, x, y, rfl, hx, c1, c2⟩ := (hr.below hB).two_ (k := k) (by omega)
      rw [List.getElem?_map] at hx
      obtain ⟨r, hrk, hxy⟩ := Option.map_eq_some_iff.1 hx
      cases hxy
      have htk : rs.take (k + 1) = rs.take k ++ [r] := by rw [List.take_add_one, hrk]; rfl
      have Ht := Lib.hid htk
      clear htk hx hrk hr
      go_wp2_with (at_builtin; refine wpList_append_own _ rfl _ _ 28 rfl w1.heap.size 3 i0 (.int .i64 0) 1 8 Try.underlying28 hi0 hz0 hz1 hz2 rfl (by decide) _ _ _ rfl (hrow.alloc _) ⟨wr.heap.size, 0, none⟩ 1 1 [.int .i64 (r.2 : Int)] rfl rfl (cells_new _ [.int .i64 (r.2 : Int)] _) (by simp [Value.oneCell']) (by unfold maxLen; omega) (by omega) (by simp; omega) ?_; intro v' w3 hown' hgrow _)
      have hB3 : Below w1.heap.size w1 w3 := (hB.alloc (by omega) _).grown hgrow (by simp; omega) (fun k' e' => (hrow.lt k' e').1)
      exact ⟨⟨k + 1, by omega, by go_num, by rw [Ht.out]; simpa [intV] using hown', hB3⟩, by simp [intOf]; omega⟩
    · go_wp2
      go_ret2
      obtain ⟨A2, c2, rfl⟩ := ownsRow_slice hrow
      obtain rfl : k = rs.length - 1 := by omega
      exact ⟨A2, _, c2, rfl, by rw [List.dropLast_eq_take]; exact Rd.of_own hrow, hB1.trans (hB.mono hB1.size)⟩

set_option maxHeartbeats 400000 in
theorem Piece_any (b off len cap i j : Nat) (hij : i ≤ j) (hj : j ≤ len) (hc : len ≤ cap) (hi : i < len) (w : World) :
    Calls Try.prog 24 #[.slice (some ⟨b, off, none⟩) len cap, .agg #[.int .i64 (i : Int), .int .i64 (j : Int)]] w fun e w' => e = .returned (.slice (some ⟨b, off + i, none⟩) (j - i) (cap - i)) ∧ Below w.heap.size w w' := by
  have hsl := run_slice_part (P := Try.prog) 22 5 b off len cap i j Try.underlying22 (by kernel_rfl) hij (by omega) (by omega)
  go_enter Try.func24, Try.ntmps24
  go_wp2
  go_ret
  exact ⟨rfl, (Below.refl _ _).alloc (Nat.le_refl _) _⟩

set_option maxHeartbeats 400000 in
theorem Made_any (x y : UInt8) (w : World) :
    Calls Try.prog 21 #[.agg #[.int .u8 (x.toNat : Int), .int .u8 (y.toNat : Int)]] w fun e w' => e = .returned (.agg #[.int .i64 ((4 + x.toNat % 8 : Nat) : Int), .int .i64 ((4 + x.toNat % 8 + y.toNat % 16 : Nat) : Int)]) ∧ Below w.heap.size w w' := by
  have hx := x.toNat_lt
  have hy := y.toNat_lt
  have b0 := (Blk.new w 45 #[.int .u8 (x.toNat : Int), .int .u8 (y.toNat : Int)])
  go_enter Try.func21, Try.ntmps21
  go_wp2
  refine bodyPost_ret (v := .agg #[.int .i64 ((4 + x.toNat % 8 : Nat) : Int), .int .i64 ((4 + x.toNat % 8 + y.toNat % 16 : Nat) : Int)]) ?_ rfl ⟨rfl, ((Below.refl _ _).alloc (Nat.le_refl _) _).alloc (by simp) _⟩
  have e1 : ((4 + x.toNat % 8 : Nat) : Int) = 4 + (x.toNat : Int) % 8 := by omega
  have e2 : ((4 + x.toNat % 8 + y.toNat % 16 : Nat) : Int) = 4 + (x.toNat : Int) % 8 + (y.toNat : Int) % 16 := by omega
  rw [e1, e2]
  simp [results, Try.results21, go_sem]

set_option maxHeartbeats 400000 in
theorem blocks_good (A : Option Addr) (len cap lo hi : Nat) (bs : List UInt8) (hlo : 4 ≤ lo) (hlh : lo ≤ hi) (hhi : hi ≤ 4096) (w : World) (hr : Rd w 1 A len (bs.map byteV)) (hlen : len ≤ 8796093022208) :
    Calls Try.prog 14 #[.slice A len cap, .agg #[.int .i64 lo, .int .i64 hi]] w fun e W' => ∃ A' n' c', e = .returned (.tuple #[.slice A' n' c', .int .i64 0]) ∧
      Rd W' 2 A' n' (((blocks bs lo hi).map natPair).flatMap twoV) ∧ Below w.heap.size w W' := by
  have hr1 := hr.alloc (.cells #[.int .i64 lo, .int .i64 hi] 27)
  go_enter Try.func14, Try.ntmps14
  go_wp2_with fail
  refine (callsIn_wide.1 (Blocks_in 3 (by omega) A len cap lo hi bs hlo hlh hhi _ hr1 hlen)).mono ?_
  rintro e w1 ⟨A', n', c', rfl, hr2, hb⟩
  go_wp2
  go_ret2
  exact ⟨A', n', c', rfl, hr2, ((Below.refl _ _).alloc (Nat.le_refl _) _).trans (hb.mono (by simp))⟩
set_option maxHeartbeats 400000 in
theorem blocks_bad (A : Option Addr) (len cap : Nat) (a b : Int) (h : ¬ (4 ≤ a ∧ a ≤ b ∧ b ≤ 4096)) (w : World) :
    Calls Try.prog 14 #[.slice A len cap, .agg #[.int .i64 a, .int .i64 b]] w fun e W' => e = .returned (.tuple #[.slice none 0 0, .int .i64 1]) ∧ Below w.heap.size w W' := by
  have H := Lib.hid h
  clear h
  go_enter Try.func14, Try.ntmps14
  go_wp2_with fail
  refine (Blocks_bad A len cap a b H.out _).mono ?_
  rintro e w1 ⟨rfl, hb⟩
  go_wp2
  go_ret2
  exact ⟨rfl, ((Below.refl _ _).alloc (Nat.le_refl _) _).trans (hb.mono (by simp))⟩


end Go.Proofs.Ytdhibimhohkmoaa
