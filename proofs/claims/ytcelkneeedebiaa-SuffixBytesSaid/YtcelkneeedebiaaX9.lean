/- The reference's Less. -/
import Derived.Test.YtcelkneeedebiaaX8
namespace Go.Proofs.Ytcelkneeedebiaa
open Go.RowKit Go.Sort

theorem lexlt_drop : ∀ (k : Nat) {xs ys : List UInt8}, k ≤ xs.length → k ≤ ys.length → xs.take k = ys.take k → lexlt xs ys = lexlt (xs.drop k) (ys.drop k)
  | 0, _, _, _, _, _ => rfl
  | k + 1, [], _, h, _, _ => by simp at h
  | k + 1, _ :: _, [], _, h, _ => by simp at h
  | k + 1, x :: xs, y :: ys, h1, h2, h => by
    rw [List.take_succ_cons, List.take_succ_cons] at h
    injection h with h h'
    subst h
    rw [List.drop_succ_cons, List.drop_succ_cons, ← lexlt_drop k (by simpa using h1) (by simpa using h2) h']
    simp [lexlt]
theorem lexlt_at {xs ys : List UInt8} {k : Nat} {x y : UInt8} (hx : xs[k]? = some x) (hy : ys[k]? = some y) (h : xs.take k = ys.take k) (hne : x ≠ y) : lexlt xs ys = decide ((x.toNat : Int) < (y.toNat : Int)) := by
  have l1 := (List.getElem?_eq_some_iff.1 hx).1
  have l2 := (List.getElem?_eq_some_iff.1 hy).1
  rw [lexlt_drop k (by omega) (by omega) h, List.drop_eq_getElem_cons l1, List.drop_eq_getElem_cons l2, (List.getElem?_eq_some_iff.1 hx).2, (List.getElem?_eq_some_iff.1 hy).2, Bool.eq_iff_iff, lexlt_cons, decide_eq_true_eq, UInt8.lt_iff_toNat_lt]
  constructor
  · rintro (q | ⟨q, _⟩)
    · omega
    · exact absurd q hne
  · intro q; exact .inl (by omega)
theorem lexlt_end2 {xs ys : List UInt8} {k : Nat} (h1 : k ≤ xs.length) (h2 : k ≤ ys.length) (h : xs.take k = ys.take k) (hs : k = xs.length ∨ k = ys.length) : lexlt xs ys = decide ((xs.length : Int) < (ys.length : Int)) := by
  rw [lexlt_drop k h1 h2 h]
  by_cases e : k = ys.length
  · rw [e, List.drop_length, lexlt_nil]
    exact (decide_eq_false (by omega)).symm
  · have e' : k = xs.length := by omega
    rw [e', List.drop_length, List.drop_eq_getElem_cons (show xs.length < ys.length by omega)]
    exact (decide_eq_true (by omega)).symm
set_option maxRecDepth 100000 in
set_option maxHeartbeats 1000000 in
theorem RLess_any (A B : Option Addr) (n m c d : Nat) (xs ys : List UInt8) (w : World) (hx : Rd w 1 A n (xs.map byteV)) (hy : Rd w 1 B m (ys.map byteV)) :
    Calls Try.prog 20 #[.slice A n c, .slice B m d] w fun e w' => e = .returned (.bool (lexlt xs ys)) ∧ Below w.heap.size w w' := by
  have hxl := hx.len1
  have hyl := hy.len1
  have hnl := hx.le
  have hml := hy.le
  go_enter Try.func20, Try.ntmps20
  have Hx := Lib.hid hx
  have Hy := Lib.hid hy
  have Hxl := Lib.hid hxl
  have Hyl := Lib.hid hyl
  clear hx hy hxl hyl
  go_wp2_with fail
  go_loopw [5] (fun v5 wr => ∃ k : Nat, k ≤ n ∧ k ≤ m ∧ v5 = .int .i64 (k : Int) ∧ xs.take k = ys.take k ∧ Below w.heap.size w wr) (fun v5 _ => n - (intOf v5).toNat)
  case atStart => exact ⟨0, by omega, by omega, rfl, rfl, Below.refl _ _⟩
  case round =>
    obtain ⟨k, hkn, hkm, rfl, hpre, hB⟩ := hrel
    have HB := Lib.hid hB
    have Hpre := Lib.hid hpre
    by_cases hlt : k < n ∧ k < m
    · obtain ⟨h1, h2⟩ := hlt
      obtain ⟨b, off, x, rfl, hxk, cx⟩ := (Hx.out.below hB).at_ h1
      obtain ⟨b', off', y, rfl, hyk, cy⟩ := (Hy.out.below hB).at_ h2
      have cx' : wr.cell? ⟨b, off + k, none⟩ = some (.int .u8 (x.toNat : Int)) := cx
      have cy' : wr.cell? ⟨b', off' + k, none⟩ = some (.int .u8 (y.toNat : Int)) := cy
      have d1 : decide ((k : Int) < (n : Int)) = true := decide_eq_true (by omega)
      have d2 : decide ((k : Int) < (m : Int)) = true := decide_eq_true (by omega)
      have n1 : decide (k < n) = true := decide_eq_true h1
      have n2 : decide (k < m) = true := decide_eq_true h2
      have i1 : (k : Int) < (n : Int) := by omega
      have i2 : (k : Int) < (m : Int) := by omega
      have i0 : (0 : Int) ≤ (k : Int) := by omega
      by_cases hxy : x = y
      · have Hs := Lib.hid (show xs.take (k + 1) = ys.take (k + 1) by rw [List.take_add_one, List.take_add_one, hpre, hxk, hyk, hxy])
        subst hxy
        have hd : ((x.toNat : Int) != (x.toNat : Int)) = false := by simp
        clear cx cy hB hpre hxk hyk
        go_upto_region 4 with fail
        go_quiet (fail)
        all_goals
          have HBq := Lib.hid (below_drewN HB.out nq)
          generalize wr.drewN nq = wq at *
          go_wp2_with fail
          exact ⟨⟨k + 1, by omega, by omega, by go_num, Hs.out, HBq.out⟩, by simp [intOf]; omega⟩
      · have hne : ¬ ((x.toNat : Int) = (y.toNat : Int)) := fun e => hxy (UInt8.toNat_inj.1 (by omega))
        have hd0 : ((x.toNat : Int) == (y.toNat : Int)) = false := by rw [beq_eq_false_iff_ne]; exact hne
        have hd : ((x.toNat : Int) != (y.toNat : Int)) = true := by rw [bne, hd0]; rfl
        have HR := Lib.hid (lexlt_at hxk hyk hpre hxy)
        have Hcx := Lib.hid (show ∀ q, (wr.drewN q).cell? ⟨b, off + k, none⟩ = some (.int .u8 (x.toNat : Int)) from fun q => cx')
        have Hcy := Lib.hid (show ∀ q, (wr.drewN q).cell? ⟨b', off' + k, none⟩ = some (.int .u8 (y.toNat : Int)) from fun q => cy')
        clear cx cy hB hpre hxk hyk hne hxy
        go_upto_region 4 with fail
        go_quiet (fail)
        have HBq := Lib.hid (below_drewN HB.out nq)
        have cx' := Hcx.out nq
        have cy' := Hcy.out nq
        clear Hcx Hcy
        generalize wr.drewN nq = wq at *
        go_upto_region 5 with fail
        go_quiet (fail)
        all_goals
          have HBz := Lib.hid (below_drewN HBq.out nq)
          generalize wq.drewN nq = wz at *
          go_wp2_with fail
          all_goals (go_ret; exact ⟨by rw [HR.out]; first | rfl | simp, HBz.out⟩)
    · have HR := Lib.hid (lexlt_end2 (k := k) (xs := xs) (ys := ys) (by rw [Hxl.out]; omega) (by rw [Hyl.out]; omega) hpre (by rw [Hxl.out, Hyl.out]; omega))
      rw [Hxl.out, Hyl.out] at HR
      clear hpre hB
      by_cases h1 : k < n
      · have d1 : decide ((k : Int) < (n : Int)) = true := decide_eq_true (by omega)
        have d2 : decide ((k : Int) < (m : Int)) = false := decide_eq_false (by omega)
        have n1 : decide (k < n) = true := decide_eq_true h1
        have n2 : decide (k < m) = false := decide_eq_false (by omega)
        go_wp2_with fail
        all_goals (go_ret; exact ⟨by rw [HR.out]; first | rfl | simp, HB.out⟩)
      · have d1 : decide ((k : Int) < (n : Int)) = false := decide_eq_false (by omega)
        have n1 : decide (k < n) = false := decide_eq_false (by omega)
        go_wp2_with fail
        all_goals (go_ret; exact ⟨by rw [HR.out]; first | rfl | simp, HB.out⟩)
end Go.Proofs.Ytcelkneeedebiaa
