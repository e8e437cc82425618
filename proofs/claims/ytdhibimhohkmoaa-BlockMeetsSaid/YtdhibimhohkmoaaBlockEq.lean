/- The functions of the references that compare two lists. -/
import Derived.Test.YtdhibimhohkmoaaBase
namespace Go.Proofs.Ytdhibimhohkmoaa
open Go.RowKit

/-- Two pairs of ints differ. -/
def twoNe (x y x' y' : Int) : Bool := !(x == x' && y == y')
theorem twoNe_true {x y x' y' : Int} (h : twoNe x y x' y' = true) : ¬ (x, y) = (x', y') := by rintro ⟨⟩; simp [twoNe] at h
theorem twoNe_false {x y x' y' : Int} (h : twoNe x y x' y' = false) : (x, y) = (x', y') := by simpa [twoNe] using h

theorem range_und : Try.prog.underlying 48 = some (.struct (Try.prog.fieldsOf 48)) := by kernel_rfl
theorem range_held : Try.prog.stoodInHeld 48 = false := by kernel_rfl
theorem range_guard : Try.prog.eqGuardType Try.prog.depth 48 = false := by kernel_rfl
theorem range_eq (x y x' y' : Int) (d : Nat) (w : World) : (Op.eqFields (d + 1) #[.int .i64 x, .int .i64 y] #[.int .i64 x', .int .i64 y'] (Try.prog.fieldsOf 48).toList).run Try.prog w = .ok (x == x' && y == y') w := by
  have e : (Try.prog.fieldsOf 48).toList = [{ name := "From", type := 3, offset := 0, embedded := false, tag := "", pkgPath := "", byteOffset := 0 }, { name := "To", type := 3, offset := 1, embedded := false, tag := "", pkgPath := "", byteOffset := 8 }] := by kernel_rfl
  rw [e]
  simp [Op.eqFields, go_sem, Try.underlying3]
  by_cases h1 : x = x' <;> by_cases h2 : y = y' <;> simp [h1, h2]
theorem range_neq (x y x' y' : Int) (w : World) : (binOp .neq 48 (.agg #[.int .i64 x, .int .i64 y]) (.agg #[.int .i64 x', .int .i64 y'])).run Try.prog w = .ok (.bool (twoNe x y x' y')) w := by
  rw [run_neq_struct, run_equalIn_agg w 9999 48 _ _ range_und range_held, range_eq]
  rfl
theorem pair_guard : Try.prog.eqGuardType Try.prog.depth 26 = false := by kernel_rfl
theorem pair_neq (x y x' y' : Int) (w : World) : (binOp .neq 26 (.agg #[.int .i64 x, .int .i64 y]) (.agg #[.int .i64 x', .int .i64 y'])).run Try.prog w = .ok (.bool (twoNe x y x' y')) w := by
  have h := run_neq_arr (P := Try.prog) w 26 3 2 .i64 Try.underlying26 Try.underlying3 (by kernel_rfl) [x, y] [x', y'] rfl rfl
  simp only [List.map_cons, List.map_nil] at h
  rw [h]
  unfold twoNe
  by_cases h1 : x = x' <;> by_cases h2 : y = y' <;> simp [h1, h2]

set_option maxHeartbeats 400000 in
theorem Ints_any (A A' : Option Addr) (n n' c c' : Nat) (xs ys : List (Int)) (w : World) (h1 : Rd w 1 A n (xs.map intV)) (h2 : Rd w 1 A' n' (ys.map intV)) :
    Calls Try.prog 18 #[.slice A n c, .slice A' n' c'] w fun e w' => e = .returned (.bool (decide (xs = ys))) ∧ ∃ k, w' = w.drewN k := by
  have hn := h1.le
  have hn' := h2.le
  have e1 := h1.len1
  have e2 := h2.len1
  subst e1 e2
  by_cases hl : xs.length = ys.length
  · have hb : ((xs.length : Int) != (ys.length : Int)) = false := by simp [hl]
    have hl1 : xs.length ≤ ys.length := by omega
    have H := Lib.hid hl
    clear hl
    go_enter Try.func18, Try.ntmps18
    go_wp2
    go_loopw [5] (fun i wr => ∃ k : Nat, k ≤ xs.length ∧ i = .int .i64 k ∧ (∃ m, wr = w.drewN m) ∧ xs.take k = ys.take k) (fun i _ => xs.length - (intOf i).toNat)
    case atStart => exact ⟨0, Nat.zero_le _, rfl, ⟨0, (World.drewN_zero _).symm⟩, by simp⟩
    case round =>
      obtain ⟨k, hk, rfl, ⟨m, rfl⟩, ht⟩ := hrel
      have Ht := Lib.hid ht
      clear ht
      by_cases hlt : k < xs.length
      · obtain ⟨b, off, x, rfl, hx, hcx⟩ := h1.int_ hlt
        obtain ⟨b', off', y, rfl, hy, hcy⟩ := h2.int_ (k := k) (by omega)
        have hlt2 : k < ys.length := by omega
        have H := Lib.hid (take_succ_eq hx hy)
        clear hx hy

        go_wp2
        go_quiet (fail)
        go_wp2
        · go_ret
          have hxy : (x != y) = true := by assumption
          exact ⟨ret_bool (by symm; simp only [decide_eq_false_iff_not]; intro e; subst e; have hq := (H.out.1 rfl).2; subst hq; simp at hxy), _, World.drewN_drewN _ _ _⟩
        · have hxy : (x != y) = false := by assumption
          exact ⟨⟨k + 1, by omega, by go_num, ⟨_, rfl⟩, H.out.2 ⟨Ht.out, by simpa using hxy⟩⟩, by simp [intOf]; omega⟩
      · obtain rfl : k = xs.length := by omega
        go_wp2
        go_ret
        exact ⟨ret_bool (by symm; simp only [decide_eq_true_eq]; have := Ht.out; rwa [List.take_length, H.out, List.take_length] at this), _, rfl⟩
  · have hb : ((xs.length : Int) != (ys.length : Int)) = true := by simp; omega
    have H := Lib.hid hl
    clear hl
    go_enter Try.func18, Try.ntmps18
    go_wp2
    go_ret
    exact ⟨ret_bool (by symm; simp only [decide_eq_false_iff_not]; rintro rfl; exact H.out rfl), 0, (World.drewN_zero _).symm⟩

set_option maxHeartbeats 400000 in
theorem Same_any (A A' : Option Addr) (n n' c c' : Nat) (xs ys : List (UInt8)) (w : World) (h1 : Rd w 1 A n (xs.map byteV)) (h2 : Rd w 1 A' n' (ys.map byteV)) :
    Calls Try.prog 23 #[.slice A n c, .slice A' n' c'] w fun e w' => e = .returned (.bool (decide (xs = ys))) ∧ ∃ k, w' = w.drewN k := by
  have hn := h1.le
  have hn' := h2.le
  have e1 := h1.len1
  have e2 := h2.len1
  subst e1 e2
  by_cases hl : xs.length = ys.length
  · have hb : ((xs.length : Int) != (ys.length : Int)) = false := by simp [hl]
    have hl1 : xs.length ≤ ys.length := by omega
    have H := Lib.hid hl
    clear hl
    go_enter Try.func23, Try.ntmps23
    go_wp2
    go_loopw [5] (fun i wr => ∃ k : Nat, k ≤ xs.length ∧ i = .int .i64 k ∧ (∃ m, wr = w.drewN m) ∧ xs.take k = ys.take k) (fun i _ => xs.length - (intOf i).toNat)
    case atStart => exact ⟨0, Nat.zero_le _, rfl, ⟨0, (World.drewN_zero _).symm⟩, by simp⟩
    case round =>
      obtain ⟨k, hk, rfl, ⟨m, rfl⟩, ht⟩ := hrel
      have Ht := Lib.hid ht
      clear ht
      by_cases hlt : k < xs.length
      · obtain ⟨b, off, x, rfl, hx, hcx⟩ := h1.byte_ hlt
        obtain ⟨b', off', y, rfl, hy, hcy⟩ := h2.byte_ (k := k) (by omega)
        have hlt2 : k < ys.length := by omega
        have H := Lib.hid (take_succ_eq hx hy)
        clear hx hy

        go_wp2
        go_quiet (fail)
        go_wp2
        · go_ret
          have hxy : ((x.toNat : Int) != (y.toNat : Int)) = true := by assumption
          exact ⟨ret_bool (by symm; simp only [decide_eq_false_iff_not]; intro e; subst e; have hq := (H.out.1 rfl).2; subst hq; simp at hxy), _, World.drewN_drewN _ _ _⟩
        · have hxy : ((x.toNat : Int) != (y.toNat : Int)) = false := by assumption
          exact ⟨⟨k + 1, by omega, by go_num, ⟨_, rfl⟩, H.out.2 ⟨Ht.out, UInt8.toNat_inj.1 (by have hq : (x.toNat : Int) = (y.toNat : Int) := (by simpa using hxy); omega)⟩⟩, by simp [intOf]; omega⟩
      · obtain rfl : k = xs.length := by omega
        go_wp2
        go_ret
        exact ⟨ret_bool (by symm; simp only [decide_eq_true_eq]; have := Ht.out; rwa [List.take_length, H.out, List.take_length] at this), _, rfl⟩
  · have hb : ((xs.length : Int) != (ys.length : Int)) = true := by simp; omega
    have H := Lib.hid hl
    clear hl
    go_enter Try.func23, Try.ntmps23
    go_wp2
    go_ret
    exact ⟨ret_bool (by symm; simp only [decide_eq_false_iff_not]; rintro rfl; exact H.out rfl), 0, (World.drewN_zero _).symm⟩

set_option maxHeartbeats 400000 in
theorem SameRanges_any (A A' : Option Addr) (n n' c c' : Nat) (xs ys : List (Int × Int)) (w : World) (h1 : Rd w 2 A n (xs.flatMap twoV)) (h2 : Rd w 2 A' n' (ys.flatMap twoV)) :
    Calls Try.prog 19 #[.slice A n c, .slice A' n' c'] w fun e w' => e = .returned (.bool (decide (xs = ys))) ∧ ∃ k, w' = w.drewN k := by
  have hn := h1.le
  have hn' := h2.le
  have e1 := h1.lenf twoV_len (by omega)
  have e2 := h2.lenf twoV_len (by omega)
  subst e1 e2
  by_cases hl : xs.length = ys.length
  · have hb : ((xs.length : Int) != (ys.length : Int)) = false := by simp [hl]
    have hl1 : xs.length ≤ ys.length := by omega
    have H := Lib.hid hl
    clear hl
    go_enter Try.func19, Try.ntmps19
    go_wp2
    go_loopw [5] (fun i wr => ∃ k : Nat, k ≤ xs.length ∧ i = .int .i64 k ∧ (∃ m, wr = w.drewN m) ∧ xs.take k = ys.take k) (fun i _ => xs.length - (intOf i).toNat)
    case atStart => exact ⟨0, Nat.zero_le _, rfl, ⟨0, (World.drewN_zero _).symm⟩, by simp⟩
    case round =>
      obtain ⟨k, hk, rfl, ⟨m, rfl⟩, ht⟩ := hrel
      have Ht := Lib.hid ht
      clear ht
      by_cases hlt : k < xs.length
      · obtain ⟨b, off, x1, x2, rfl, hx, hc1, hc2⟩ := h1.two_ hlt
        obtain ⟨b', off', y1, y2, rfl, hy, hc3, hc4⟩ := h2.two_ (k := k) (by omega)
        have hlt2 : k < ys.length := by omega
        have H := Lib.hid (take_succ_eq hx hy)
        clear hx hy
        have q0 := range_guard
        have q1 := range_neq
        go_wp2
        go_quiet (fail)
        go_wp2
        · go_ret
          have hxy : twoNe x1 x2 y1 y2 = true := by assumption
          exact ⟨ret_bool (by symm; simp only [decide_eq_false_iff_not]; intro e; subst e; have hq := (H.out.1 rfl).2; exact twoNe_true hxy hq), _, World.drewN_drewN _ _ _⟩
        · have hxy : twoNe x1 x2 y1 y2 = false := by assumption
          exact ⟨⟨k + 1, by omega, by go_num, ⟨_, rfl⟩, H.out.2 ⟨Ht.out, twoNe_false hxy⟩⟩, by simp [intOf]; omega⟩
      · obtain rfl : k = xs.length := by omega
        go_wp2
        go_ret
        exact ⟨ret_bool (by symm; simp only [decide_eq_true_eq]; have := Ht.out; rwa [List.take_length, H.out, List.take_length] at this), _, rfl⟩
  · have hb : ((xs.length : Int) != (ys.length : Int)) = true := by simp; omega
    have H := Lib.hid hl
    clear hl
    go_enter Try.func19, Try.ntmps19
    go_wp2
    go_ret
    exact ⟨ret_bool (by symm; simp only [decide_eq_false_iff_not]; rintro rfl; exact H.out rfl), 0, (World.drewN_zero _).symm⟩

set_option maxHeartbeats 400000 in
theorem SamePairs_any (A A' : Option Addr) (n n' c c' : Nat) (xs ys : List (Int × Int)) (w : World) (h1 : Rd w 2 A n (xs.flatMap twoV)) (h2 : Rd w 2 A' n' (ys.flatMap twoV)) :
    Calls Try.prog 20 #[.slice A n c, .slice A' n' c'] w fun e w' => e = .returned (.bool (decide (xs = ys))) ∧ ∃ k, w' = w.drewN k := by
  have hn := h1.le
  have hn' := h2.le
  have e1 := h1.lenf twoV_len (by omega)
  have e2 := h2.lenf twoV_len (by omega)
  subst e1 e2
  by_cases hl : xs.length = ys.length
  · have hb : ((xs.length : Int) != (ys.length : Int)) = false := by simp [hl]
    have hl1 : xs.length ≤ ys.length := by omega
    have H := Lib.hid hl
    clear hl
    go_enter Try.func20, Try.ntmps20
    go_wp2
    go_loopw [5] (fun i wr => ∃ k : Nat, k ≤ xs.length ∧ i = .int .i64 k ∧ (∃ m, wr = w.drewN m) ∧ xs.take k = ys.take k) (fun i _ => xs.length - (intOf i).toNat)
    case atStart => exact ⟨0, Nat.zero_le _, rfl, ⟨0, (World.drewN_zero _).symm⟩, by simp⟩
    case round =>
      obtain ⟨k, hk, rfl, ⟨m, rfl⟩, ht⟩ := hrel
      have Ht := Lib.hid ht
      clear ht
      by_cases hlt : k < xs.length
      · obtain ⟨b, off, x1, x2, rfl, hx, hc1, hc2⟩ := h1.two_ hlt
        obtain ⟨b', off', y1, y2, rfl, hy, hc3, hc4⟩ := h2.two_ (k := k) (by omega)
        have hlt2 : k < ys.length := by omega
        have H := Lib.hid (take_succ_eq hx hy)
        clear hx hy
        have q0 := pair_guard
        have q1 := pair_neq
        go_wp2
        go_quiet (fail)
        go_wp2
        · go_ret
          have hxy : twoNe x1 x2 y1 y2 = true := by assumption
          exact ⟨ret_bool (by symm; simp only [decide_eq_false_iff_not]; intro e; subst e; have hq := (H.out.1 rfl).2; exact twoNe_true hxy hq), _, World.drewN_drewN _ _ _⟩
        · have hxy : twoNe x1 x2 y1 y2 = false := by assumption
          exact ⟨⟨k + 1, by omega, by go_num, ⟨_, rfl⟩, H.out.2 ⟨Ht.out, twoNe_false hxy⟩⟩, by simp [intOf]; omega⟩
      · obtain rfl : k = xs.length := by omega
        go_wp2
        go_ret
        exact ⟨ret_bool (by symm; simp only [decide_eq_true_eq]; have := Ht.out; rwa [List.take_length, H.out, List.take_length] at this), _, rfl⟩
  · have hb : ((xs.length : Int) != (ys.length : Int)) = true := by simp; omega
    have H := Lib.hid hl
    clear hl
    go_enter Try.func20, Try.ntmps20
    go_wp2
    go_ret
    exact ⟨ret_bool (by symm; simp only [decide_eq_false_iff_not]; rintro rfl; exact H.out rfl), 0, (World.drewN_zero _).symm⟩

end Go.Proofs.Ytdhibimhohkmoaa
