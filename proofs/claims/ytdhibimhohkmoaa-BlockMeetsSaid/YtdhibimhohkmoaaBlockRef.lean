/- The references of chapter 05: limits, ends, blocks. -/
import Derived.Test.YtdhibimhohkmoaaBlockEq
import Derived.Test.YtdhibimhohkmoaaBlockSpec
import Derived.Test.YtdhibimhohkmoaaSeq
namespace Go.Proofs.Ytdhibimhohkmoaa
open Go.RowKit

set_option maxHeartbeats 400000 in
theorem Right_true (lo hi : Nat) (hlo : 4 ≤ lo) (hlh : lo ≤ hi) (hhi : hi ≤ 4096) (w : World) :
    Calls Try.prog 28 #[.agg #[.int .i64 lo, .int .i64 hi]] w fun e w' => e = .returned (.bool true) ∧ Below w.heap.size w w' := by
  go_enter Try.func28, Try.ntmps28
  go_wp2
  go_ret
  exact ⟨ret_bool (by simp; omega), (Below.refl _ _).alloc (Nat.le_refl _) _⟩
set_option maxHeartbeats 400000 in
theorem Right_false (a b : Int) (h : ¬ (4 ≤ a ∧ a ≤ b ∧ b ≤ 4096)) (w : World) :
    Calls Try.prog 28 #[.agg #[.int .i64 a, .int .i64 b]] w fun e w' => e = .returned (.bool false) ∧ Below w.heap.size w w' := by
  by_cases h1 : 4 ≤ a
  · by_cases h2 : a ≤ b
    · have h3 : 4096 < b := by omega
      clear h
      go_enter Try.func28, Try.ntmps28
      go_wp2
      go_ret
      exact ⟨ret_bool (by simp; omega), (Below.refl _ _).alloc (Nat.le_refl _) _⟩
    · clear h
      go_enter Try.func28, Try.ntmps28
      go_wp2
      go_ret
      exact ⟨rfl, (Below.refl _ _).alloc (Nat.le_refl _) _⟩
  · clear h
    go_enter Try.func28, Try.ntmps28
    go_wp2
    go_ret
    exact ⟨rfl, (Below.refl _ _).alloc (Nat.le_refl _) _⟩

/-- The first place behind k at which a block that begins at p ends. -/
def endFrom (bs : List UInt8) (lo hi p : Nat) : Nat → Nat → Nat
  | 0, k => k
  | f + 1, k => if stp bs lo hi p k = true then k else endFrom bs lo hi p f (k + 1)
/-- The end of the block that begins at p. -/
def endAt (bs : List UInt8) (lo hi p : Nat) : Nat := endFrom bs lo hi p (bs.length - (p + 1)) (p + 1)

set_option maxHeartbeats 2000000 in
theorem End_any (A : Option Addr) (len cap p lo hi : Nat) (bs : List UInt8) (hp : p < len) (hlo : 4 ≤ lo) (hlh : lo ≤ hi) (hhi : hi ≤ 4096) (w : World) (hr : Rd w 1 A len (bs.map byteV)) :
    Calls Try.prog 29 #[.slice A len cap, .int .i64 p, .agg #[.int .i64 lo, .int .i64 hi]] w fun e w' => e = .returned (.int .i64 (endAt bs lo hi p : Nat)) ∧ Below w.heap.size w w' := by
  have hle := hr.le
  have hl := hr.len1
  subst hl
  have b0 := Blk.new w 27 #[.int .i64 lo, .int .i64 hi]
  go_enter Try.func29, Try.ntmps29
  go_wp2
  go_loopw [7] (fun i wr => ∃ k : Nat, p + 1 ≤ k ∧ k ≤ bs.length ∧ k ≤ p + hi ∧ i = .int .i64 k ∧ (∃ m, wr = (w.alloc (.cells #[.int .i64 lo, .int .i64 hi] 27)).drewN m) ∧ endFrom bs lo hi p (bs.length - k) k = endAt bs lo hi p) (fun i _ => bs.length - (intOf i).toNat)
  case atStart => exact ⟨p + 1, by omega, by omega, by omega, by go_num, ⟨0, (World.drewN_zero _).symm⟩, rfl⟩
  case round =>
    obtain ⟨k, hk1, hk2, hk3, rfl, ⟨m, rfl⟩, he⟩ := hrel
    have hB : Below w.heap.size w (w.alloc (.cells #[.int .i64 lo, .int .i64 hi] 27)) := (Below.refl _ _).alloc (Nat.le_refl _) _
    have hBm : ∀ m, Below w.heap.size w ((w.alloc (.cells #[.int .i64 lo, .int .i64 hi] 27)).drewN m) := fun m => ⟨hB.os, hB.tape, hB.output, hB.size, hB.block⟩
    have hr1 := hr.alloc (.cells #[.int .i64 lo, .int .i64 hi] 27)
    have HB := Lib.hid hBm
    clear hB hBm b0 hr
    by_cases hlt : k < bs.length
    · by_cases hh : k - p = hi
      · have Hs := Lib.hid (show endFrom bs lo hi p (bs.length - k) k = k by rw [show bs.length - k = (bs.length - (k + 1)) + 1 from by omega, endFrom, if_pos (by simp [stp, hh])])
        rw [Hs.out] at he
        have He := Lib.hid he
        have hh' : (hi : Int) ≤ (k : Int) - (p : Int) := by omega
        clear he hh hr1
        go_wp2
        go_ret
        exact ⟨ret_int (by rw [He.out]), HB.out _⟩
      · have hh' : (k : Int) - (p : Int) < (hi : Int) := by omega
        by_cases h3 : lo ≤ k - p
        · obtain ⟨b, off, x1, hA, e1, c1⟩ := hr1.byte_ (k := k - 4) (by omega)
          subst hA
          obtain ⟨_, _, x2, hA, e2, c2⟩ := hr1.byte_ (k := k - 3) (by omega)
          cases hA
          obtain ⟨_, _, x3, hA, e3, c3⟩ := hr1.byte_ (k := k - 2) (by omega)
          cases hA
          obtain ⟨_, _, x4, hA, e4, c4⟩ := hr1.byte_ (k := k - 1) (by omega)
          cases hA
          have hsum : sumAt bs k = x1.toNat + x2.toNat + x3.toNat + x4.toNat := by
            unfold sumAt
            simp [List.getD, e1, e2, e3, e4]
          have y1 := x1.toNat_lt
          have y2 := x2.toNat_lt
          have y3 := x3.toNat_lt
          have y4 := x4.toNat_lt
          have h3' : (lo : Int) ≤ (k : Int) - (p : Int) := by omega
          by_cases h4 : sumAt bs k % 16 = 0
          · have Hs := Lib.hid (show endFrom bs lo hi p (bs.length - k) k = k by rw [show bs.length - k = (bs.length - (k + 1)) + 1 from by omega, endFrom, if_pos (by simp [stp, h3, h4])])
            rw [Hs.out] at he
            have He := Lib.hid he
            have hb : (((x1.toNat : Int) + (x2.toNat : Int) + (x3.toNat : Int) + (x4.toNat : Int)) % 16 == 0) = true := by rw [beq_iff_eq]; omega
            clear he hh h3 h4 hsum e1 e2 e3 e4 hr1
            go_wp2
            go_quiet (fail)
            go_wp2
            go_ret
            exact ⟨ret_int (by rw [He.out]), by rw [World.drewN_drewN]; exact HB.out _⟩
          · have Hs := Lib.hid (show endFrom bs lo hi p (bs.length - k) k = endFrom bs lo hi p (bs.length - (k + 1)) (k + 1) by
              rw [show bs.length - k = (bs.length - (k + 1)) + 1 from by omega, endFrom, if_neg (by simp only [stp, Bool.or_eq_true, Bool.and_eq_true, decide_eq_true_eq]; omega)])
            rw [Hs.out] at he
            have He := Lib.hid he
            have hb : (((x1.toNat : Int) + (x2.toNat : Int) + (x3.toNat : Int) + (x4.toNat : Int)) % 16 == 0) = false := by rw [beq_eq_false_iff_ne]; omega
            clear he hh h3 h4 hsum e1 e2 e3 e4 hr1
            go_wp2
            go_quiet (fail)
            go_wp2
            exact ⟨⟨k + 1, by omega, by omega, by omega, by go_num, ⟨_, rfl⟩, He.out⟩, by simp [intOf]; omega⟩
        · have Hs := Lib.hid (show endFrom bs lo hi p (bs.length - k) k = endFrom bs lo hi p (bs.length - (k + 1)) (k + 1) by
              rw [show bs.length - k = (bs.length - (k + 1)) + 1 from by omega, endFrom, if_neg (by simp only [stp, Bool.or_eq_true, Bool.and_eq_true, decide_eq_true_eq]; omega)])
          rw [Hs.out] at he
          have He := Lib.hid he
          have h3' : (k : Int) - (p : Int) < (lo : Int) := by omega
          have hb : decide ((lo : Int) ≤ (k : Int) - (p : Int)) = false := by simp; omega
          clear he hh h3 hr1
          go_wp2
          go_quiet (fail)
          go_wp2
          exact ⟨⟨k + 1, by omega, by omega, by omega, by go_num, ⟨_, rfl⟩, He.out⟩, by simp [intOf]; omega⟩
    · obtain rfl : k = bs.length := by omega
      rw [Nat.sub_self, endFrom] at he
      have He := Lib.hid he
      clear he hr1
      go_wp2
      go_ret
      exact ⟨ret_int (by rw [← He.out]), HB.out _⟩

theorem endFrom_le (bs : List UInt8) (lo hi p : Nat) : ∀ f k, k ≤ endFrom bs lo hi p f k ∧ endFrom bs lo hi p f k ≤ k + f
  | 0, k => by simp [endFrom]
  | f + 1, k => by
    rw [endFrom]
    split
    · omega
    · have := endFrom_le bs lo hi p f (k + 1); omega
theorem endAt_le (bs : List UInt8) (lo hi p : Nat) (h : p < bs.length) : p < endAt bs lo hi p ∧ endAt bs lo hi p ≤ bs.length := by
  have := endFrom_le bs lo hi p (bs.length - (p + 1)) (p + 1)
  unfold endAt
  omega
theorem blks_end (bs : List UInt8) (lo hi p : Nat) : ∀ f k, k < bs.length → bs.length - (k + 1) = f →
    blks bs lo hi (bs.length - k) p k = (p, endFrom bs lo hi p f (k + 1)) :: blks bs lo hi (bs.length - endFrom bs lo hi p f (k + 1)) (endFrom bs lo hi p f (k + 1)) (endFrom bs lo hi p f (k + 1))
  | 0, k, hk, hf => by
    rw [endFrom]
    have hs : stp bs lo hi p (k + 1) = true := by simp [stp]; omega
    exact blks_yes hk hs
  | f + 1, k, hk, hf => by
    rw [endFrom]
    by_cases hs : stp bs lo hi p (k + 1) = true
    · rw [if_pos hs]
      exact blks_yes hk hs
    · rw [if_neg hs, blks_no hk (by simpa using hs)]
      exact blks_end bs lo hi p f (k + 1) (by omega) (by omega)
theorem blks_step (bs : List UInt8) (lo hi p : Nat) (h : p < bs.length) : blks bs lo hi (bs.length - p) p p = (p, endAt bs lo hi p) :: blks bs lo hi (bs.length - endAt bs lo hi p) (endAt bs lo hi p) (endAt bs lo hi p) :=
  blks_end bs lo hi p _ p h rfl

theorem info48' : (Try.prog.info? 48).map (fun i => (i.zero, i.size, i.bytes)) = some (some (.agg #[.int .i64 0, .int .i64 0]), 2, 16) := by kernel_rfl

end Go.Proofs.Ytdhibimhohkmoaa
