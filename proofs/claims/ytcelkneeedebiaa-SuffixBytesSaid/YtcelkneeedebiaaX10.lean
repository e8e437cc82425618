/- Equality of lists of numbers; a beginning of at most so many bytes. -/
import Derived.Test.YtcelkneeedebiaaX9
namespace Go.Proofs.Ytcelkneeedebiaa
open Go.RowKit Go.Sort

set_option maxRecDepth 100000 in
set_option maxHeartbeats 1000000 in
theorem Ints_any (A B : Option Addr) (n m c d : Nat) (xs ys : List Int) (w : World) (hx : Rd w 1 A n (xs.map intV)) (hy : Rd w 1 B m (ys.map intV)) :
    Calls Try.prog 13 #[.slice A n c, .slice B m d] w fun e w' => e = .returned (.bool (decide (xs = ys))) ∧ Below w.heap.size w w' := by
  have hxl := hx.len1
  have hyl := hy.len1
  have hnl := hx.le
  have hml := hy.le
  go_enter Try.func13, Try.ntmps13
  by_cases hnm : n = m
  · subst hnm
    have Hx := Lib.hid hx
    have Hy := Lib.hid hy
    have Hxl := Lib.hid hxl
    have Hyl := Lib.hid hyl
    clear hx hy hxl hyl
    go_wp2_with fail
    go_loopw [5] (fun v5 wr => ∃ k : Nat, k ≤ n ∧ v5 = .int .i64 (k : Int) ∧ xs.take k = ys.take k ∧ Below w.heap.size w wr) (fun v5 _ => n - (intOf v5).toNat)
    case atStart => exact ⟨0, by omega, rfl, rfl, Below.refl _ _⟩
    case round =>
      obtain ⟨k, hk, rfl, hpre, hB⟩ := hrel
      by_cases hlt : k < n
      · obtain ⟨b, off, x, rfl, hxk, cx⟩ := (Hx.out.below hB).at_ hlt
        obtain ⟨b', off', y, rfl, hyk, cy⟩ := (Hy.out.below hB).at_ hlt
        have cx' : wr.cell? ⟨b, off + k, none⟩ = some (.int .i64 x) := cx
        have cy' : wr.cell? ⟨b', off' + k, none⟩ = some (.int .i64 y) := cy
        have htk := take_succ_eq hxk hyk
        have HB := Lib.hid hB
        have Hpre := Lib.hid hpre
        by_cases hxy : x = y
        · have Hs := Lib.hid (htk.2 ⟨hpre, hxy⟩)
          subst hxy
          have hd2 : (x != x) = false := by simp
          clear cx cy hB hpre htk hxk hyk
          go_upto_region 6 with fail
          go_quiet (fail)
          have hBq := below_drewN HB.out nq
          have HBq := Lib.hid hBq
          clear hBq
          generalize wr.drewN nq = wq at *
          go_wp2_with fail
          exact ⟨⟨k + 1, by omega, by go_num, Hs.out, HBq.out⟩, by simp [intOf]; omega⟩
        · have hne : xs ≠ ys := fun e => hxy (by rw [e, hyk] at hxk; exact (Option.some.inj hxk).symm)
          have Hv := Lib.hid (decide_eq_false hne)
          have hd : (x == y) = false := by rw [beq_eq_false_iff_ne]; exact hxy
          have hd2 : (x != y) = true := by rw [bne, hd]; rfl
          clear cx cy hB hpre htk hxk hyk hne
          go_upto_region 6 with fail
          go_quiet (fail)
          have hBq := below_drewN HB.out nq
          have HBq := Lib.hid hBq
          clear hBq
          generalize wr.drewN nq = wq at *
          go_wp2_with fail
          go_ret
          exact ⟨by rw [Hv.out]; rfl, HBq.out⟩
      · have he : xs = ys := by
          rw [List.take_of_length_le (by have := Hxl.out; omega), List.take_of_length_le (by have := Hyl.out; omega)] at hpre
          exact hpre
        have Hv := Lib.hid (decide_eq_true he)
        have HB := Lib.hid hB
        clear hpre he hB
        go_wp2_with fail
        go_ret
        exact ⟨by rw [Hv.out]; rfl, HB.out⟩
  · have hne : xs ≠ ys := fun e => hnm (by rw [← hxl, ← hyl, e])
    have Hv := Lib.hid (decide_eq_false hne)
    have hd : ((n : Int) == (m : Int)) = false := by rw [beq_eq_false_iff_ne]; omega
    clear hx hy hxl hyl hne
    go_wp2_with fail
    go_ret
    exact ⟨by rw [Hv.out]; rfl, Below.refl _ _⟩

theorem rd_take {w : World} {A : Option Addr} {n m : Nat} {bs : List UInt8} (h : Rd w 1 A n (bs.map byteV)) (hm : m ≤ n) : Rd w 1 A m ((bs.take m).map byteV) := by
  have hl := h.len1
  refine ⟨by rw [List.length_map, List.length_take]; omega, by have := h.2.1; omega, fun h0 => ?_⟩
  obtain ⟨b, off, e, hc⟩ := h.2.2 (by omega)
  refine ⟨b, off, e, fun j u hu => hc j u ?_⟩
  rw [List.map_take, List.getElem?_take] at hu
  split at hu
  · exact hu
  · cases hu
set_option maxHeartbeats 1000000 in
theorem Limited_any (A : Option Addr) (len cap K : Nat) (bs : List UInt8) (w : World) (hr : Rd w 1 A len (bs.map byteV)) (hlc : len ≤ cap) (hK : K ≤ 100000) :
    Calls Try.prog 11 #[.slice A len cap, .int .i64 (K : Int)] w fun e w' => (∃ len' : Nat, e = .returned (.slice A len' cap) ∧ len' ≤ cap ∧ len' ≤ K ∧ Rd w 1 A len' ((bs.take K).map byteV)) ∧ w' = w := by
  have hl := hr.len1
  by_cases h : K < len
  · have d0 : decide ((len : Int) > (K : Int)) = true := decide_eq_true (by omega)
    have d1 : decide ((K : Int) < (len : Int)) = true := decide_eq_true (by omega)
    have HT := Lib.hid (rd_take hr (m := K) (by omega))
    go_enter Try.func11, Try.ntmps11
    clear hr hl
    go_wp2
    go_ret
    exact ⟨⟨K, rfl, by omega, by omega, HT.out⟩, rfl⟩
  · have d0 : decide ((len : Int) > (K : Int)) = false := decide_eq_false (by omega)
    have d1 : decide ((K : Int) < (len : Int)) = false := decide_eq_false (by omega)
    have HT := Lib.hid hr
    have Hl := Lib.hid (show bs.take K = bs from List.take_of_length_le (by omega))
    go_enter Try.func11, Try.ntmps11
    clear hr hl
    go_wp2
    go_ret
    exact ⟨⟨len, rfl, by omega, by omega, by rw [Hl.out]; exact HT.out⟩, rfl⟩
end Go.Proofs.Ytcelkneeedebiaa
