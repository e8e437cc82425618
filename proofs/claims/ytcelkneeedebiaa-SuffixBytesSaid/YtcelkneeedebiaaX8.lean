/- What two texts have in common: the program's and the reference's. -/
import Derived.Test.YtcelkneeedebiaaX7
import Derived.Test.YtcelkneeedebiaaG1
namespace Go.Proofs.Ytcelkneeedebiaa
open Go.RowKit Go.Sort

theorem shared_stop {xs ys : List UInt8} {k : Nat} (h1 : k ≤ xs.length) (h2 : k ≤ ys.length) (h : xs.take k = ys.take k) (hs : k = xs.length ∨ k = ys.length ∨ xs[k]? ≠ ys[k]?) : sharedL xs ys = k := by
  have hge := shared_of_take k h1 h2 h
  have hle := sharedL_le xs ys
  rcases hs with e | e | e
  · omega
  · omega
  · refine Nat.le_antisymm (Nat.le_of_not_lt fun q => e ?_) hge
    have := shared_take (k + 1) (a := xs) (s := ys) (by omega)
    have h3 := congrArg (fun l => l[k]?) this
    simpa [List.getElem?_take] using h3
set_option maxRecDepth 100000 in
set_option maxHeartbeats 1000000 in
theorem RShared_any (A B : Option Addr) (n m c d : Nat) (xs ys : List UInt8) (w : World) (hx : Rd w 1 A n (xs.map byteV)) (hy : Rd w 1 B m (ys.map byteV)) :
    Calls Try.prog 21 #[.slice A n c, .slice B m d] w fun e w' => e = .returned (.int .i64 (sharedL xs ys : Int)) ∧ Below w.heap.size w w' := by
  have hxl := hx.len1
  have hyl := hy.len1
  have hnl := hx.le
  have hml := hy.le
  go_enter Try.func21, Try.ntmps21
  have Hx := Lib.hid hx
  have Hy := Lib.hid hy
  have Hxl := Lib.hid hxl
  have Hyl := Lib.hid hyl
  clear hx hy hxl hyl
  go_wp2_with fail
  go_loopw [5] (fun v5 wr => ∃ k : Nat, k ≤ n ∧ k ≤ m ∧ v5 = .int .i64 (k : Int) ∧ xs.take k = ys.take k ∧ Below w.heap.size w wr) (fun v5 _ => n - (intOf v5).toNat)
  case atStart => exact ⟨0, by omega, by omega, rfl, rfl, Below.refl _ _⟩
  case round =>
    obtain ⟨k, hkn, hkm, rfl, hpre, hB⟩ := hrel
    have HB := Lib.hid hB
    have Hpre := Lib.hid hpre
    by_cases hlt : k < n ∧ k < m
    · obtain ⟨h1, h2⟩ := hlt
      obtain ⟨b, off, x, rfl, hxk, cx⟩ := (Hx.out.below hB).at_ h1
      obtain ⟨b', off', y, rfl, hyk, cy⟩ := (Hy.out.below hB).at_ h2
      have cx' : wr.cell? ⟨b, off + k, none⟩ = some (.int .u8 (x.toNat : Int)) := cx
      have cy' : wr.cell? ⟨b', off' + k, none⟩ = some (.int .u8 (y.toNat : Int)) := cy
      have d1 : decide ((k : Int) < (n : Int)) = true := decide_eq_true (by omega)
      have d2 : decide ((k : Int) < (m : Int)) = true := decide_eq_true (by omega)
      have dm : decide ((k : Int) < (if m < n then (m : Int) else (n : Int))) = true := decide_eq_true (by split <;> omega)
      have n1 : decide (k < n) = true := decide_eq_true h1
      have n2 : decide (k < m) = true := decide_eq_true h2
      have i1 : (k : Int) < (n : Int) := by omega
      have i2 : (k : Int) < (m : Int) := by omega
      have i0 : (0 : Int) ≤ (k : Int) := by omega
      by_cases hxy : x = y
      · have Hs := Lib.hid (show xs.take (k + 1) = ys.take (k + 1) by rw [List.take_add_one, List.take_add_one, hpre, hxk, hyk, hxy])
        subst hxy
        have hd : ((x.toNat : Int) == (x.toNat : Int)) = true := by simp
        clear cx cy hB hpre hxk hyk
        go_upto_region 2 with fail
        go_quiet (fail)
        all_goals
          have hBq := below_drewN HB.out nq
          have HBq := Lib.hid hBq
          clear hBq
          generalize wr.drewN nq = wq at *
          go_wp2_with fail
          exact ⟨⟨k + 1, by omega, by omega, by go_num, Hs.out, HBq.out⟩, by simp [intOf]; omega⟩
      · have hne : ¬ ((x.toNat : Int) = (y.toNat : Int)) := fun e => hxy (UInt8.toNat_inj.1 (by omega))
        have hd : ((x.toNat : Int) == (y.toNat : Int)) = false := by rw [beq_eq_false_iff_ne]; exact hne
        have HR := Lib.hid (shared_stop (k := k) (by rw [Hxl.out]; omega) (by rw [Hyl.out]; omega) hpre (.inr (.inr fun e => hxy (by rw [hxk, hyk] at e; exact Option.some.inj e))))
        clear cx cy hB hpre hxk hyk hne hxy
        go_upto_region 2 with fail
        go_quiet (fail)
        all_goals
          have HBq := Lib.hid (below_drewN HB.out nq)
          generalize wr.drewN nq = wq at *
          go_wp2_with fail
          all_goals (go_ret; exact ⟨by rw [HR.out]; rfl, HBq.out⟩)
    · have HR := Lib.hid (shared_stop (k := k) (xs := xs) (ys := ys) (by rw [Hxl.out]; omega) (by rw [Hyl.out]; omega) hpre (by rw [Hxl.out, Hyl.out]; omega))
      have dm : decide ((k : Int) < (if m < n then (m : Int) else (n : Int))) = false := decide_eq_false (by split <;> omega)
      clear hpre hB
      by_cases h1 : k < n
      · have d1 : decide ((k : Int) < (n : Int)) = true := decide_eq_true (by omega)
        have d2 : decide ((k : Int) < (m : Int)) = false := decide_eq_false (by omega)
        have n1 : decide (k < n) = true := decide_eq_true h1
        have n2 : decide (k < m) = false := decide_eq_false (by omega)
        go_upto_region 2 with fail
        go_quiet (fail)
        all_goals
          have HBq := Lib.hid (below_drewN HB.out nq)
          generalize wr.drewN nq = wq at *
          go_wp2_with fail
          all_goals (go_ret; exact ⟨by rw [HR.out]; rfl, HBq.out⟩)
      · have d1 : decide ((k : Int) < (n : Int)) = false := decide_eq_false (by omega)
        have n1 : decide (k < n) = false := decide_eq_false (by omega)
        go_upto_region 2 with fail
        go_quiet (fail)
        all_goals
          have HBq := Lib.hid (below_drewN HB.out nq)
          generalize wr.drewN nq = wq at *
          go_wp2_with fail
          all_goals (go_ret; exact ⟨by rw [HR.out]; rfl, HBq.out⟩)
set_option maxRecDepth 100000 in
set_option maxHeartbeats 1000000 in
theorem Shared_any (A B : Option Addr) (n m c d : Nat) (xs ys : List UInt8) (w : World) (hx : Rd w 1 A n (xs.map byteV)) (hy : Rd w 1 B m (ys.map byteV)) :
    Calls Try.prog 30 #[.slice A n c, .slice B m d] w fun e w' => e = .returned (.int .i64 (sharedL xs ys : Int)) ∧ Below w.heap.size w w' := by
  have hxl := hx.len1
  have hyl := hy.len1
  have hnl := hx.le
  have hml := hy.le
  go_enter Try.func30, Try.ntmps30
  have Hx := Lib.hid hx
  have Hy := Lib.hid hy
  have Hxl := Lib.hid hxl
  have Hyl := Lib.hid hyl
  clear hx hy hxl hyl
  go_wp2_with fail
  go_loopw [5] (fun v5 wr => ∃ k : Nat, k ≤ n ∧ k ≤ m ∧ v5 = .int .i64 (k : Int) ∧ xs.take k = ys.take k ∧ Below w.heap.size w wr) (fun v5 _ => n - (intOf v5).toNat)
  case atStart => exact ⟨0, by omega, by omega, rfl, rfl, Below.refl _ _⟩
  case round =>
    obtain ⟨k, hkn, hkm, rfl, hpre, hB⟩ := hrel
    have HB := Lib.hid hB
    have Hpre := Lib.hid hpre
    by_cases hlt : k < n ∧ k < m
    · obtain ⟨h1, h2⟩ := hlt
      obtain ⟨b, off, x, rfl, hxk, cx⟩ := (Hx.out.below hB).at_ h1
      obtain ⟨b', off', y, rfl, hyk, cy⟩ := (Hy.out.below hB).at_ h2
      have cx' : wr.cell? ⟨b, off + k, none⟩ = some (.int .u8 (x.toNat : Int)) := cx
      have cy' : wr.cell? ⟨b', off' + k, none⟩ = some (.int .u8 (y.toNat : Int)) := cy
      have d1 : decide ((k : Int) < (n : Int)) = true := decide_eq_true (by omega)
      have d2 : decide ((k : Int) < (m : Int)) = true := decide_eq_true (by omega)
      have dm : decide ((k : Int) < (if m < n then (m : Int) else (n : Int))) = true := decide_eq_true (by split <;> omega)
      have n1 : decide (k < n) = true := decide_eq_true h1
      have n2 : decide (k < m) = true := decide_eq_true h2
      have i1 : (k : Int) < (n : Int) := by omega
      have i2 : (k : Int) < (m : Int) := by omega
      have i0 : (0 : Int) ≤ (k : Int) := by omega
      by_cases hxy : x = y
      · have Hs := Lib.hid (show xs.take (k + 1) = ys.take (k + 1) by rw [List.take_add_one, List.take_add_one, hpre, hxk, hyk, hxy])
        subst hxy
        have hd : ((x.toNat : Int) == (x.toNat : Int)) = true := by simp
        clear cx cy hB hpre hxk hyk
        go_upto_region 2 with fail
        go_quiet (fail)
        all_goals
          have hBq := below_drewN HB.out nq
          have HBq := Lib.hid hBq
          clear hBq
          generalize wr.drewN nq = wq at *
          go_wp2_with fail
          exact ⟨⟨k + 1, by omega, by omega, by go_num, Hs.out, HBq.out⟩, by simp [intOf]; omega⟩
      · have hne : ¬ ((x.toNat : Int) = (y.toNat : Int)) := fun e => hxy (UInt8.toNat_inj.1 (by omega))
        have hd : ((x.toNat : Int) == (y.toNat : Int)) = false := by rw [beq_eq_false_iff_ne]; exact hne
        have HR := Lib.hid (shared_stop (k := k) (by rw [Hxl.out]; omega) (by rw [Hyl.out]; omega) hpre (.inr (.inr fun e => hxy (by rw [hxk, hyk] at e; exact Option.some.inj e))))
        clear cx cy hB hpre hxk hyk hne hxy
        go_upto_region 2 with fail
        go_quiet (fail)
        all_goals
          have HBq := Lib.hid (below_drewN HB.out nq)
          generalize wr.drewN nq = wq at *
          go_wp2_with fail
          all_goals (go_ret; exact ⟨by rw [HR.out]; rfl, HBq.out⟩)
    · have HR := Lib.hid (shared_stop (k := k) (xs := xs) (ys := ys) (by rw [Hxl.out]; omega) (by rw [Hyl.out]; omega) hpre (by rw [Hxl.out, Hyl.out]; omega))
      have dm : decide ((k : Int) < (if m < n then (m : Int) else (n : Int))) = false := decide_eq_false (by split <;> omega)
      clear hpre hB
      by_cases h1 : k < n
      · have d1 : decide ((k : Int) < (n : Int)) = true := decide_eq_true (by omega)
        have d2 : decide ((k : Int) < (m : Int)) = false := decide_eq_false (by omega)
        have n1 : decide (k < n) = true := decide_eq_true h1
        have n2 : decide (k < m) = false := decide_eq_false (by omega)
        go_upto_region 2 with fail
        go_quiet (fail)
        all_goals
          have HBq := Lib.hid (below_drewN HB.out nq)
          generalize wr.drewN nq = wq at *
          go_wp2_with fail
          all_goals (go_ret; exact ⟨by rw [HR.out]; rfl, HBq.out⟩)
      · have d1 : decide ((k : Int) < (n : Int)) = false := decide_eq_false (by omega)
        have n1 : decide (k < n) = false := decide_eq_false (by omega)
        go_upto_region 2 with fail
        go_quiet (fail)
        all_goals
          have HBq := Lib.hid (below_drewN HB.out nq)
          generalize wr.drewN nq = wq at *
          go_wp2_with fail
          all_goals (go_ret; exact ⟨by rw [HR.out]; rfl, HBq.out⟩)
end Go.Proofs.Ytcelkneeedebiaa
