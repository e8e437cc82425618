/- The reference of package fetch: lists of chunks and transfers compared. -/
import Derived.Test.YthlecmmngldodaaDoorF1
namespace Go.Proofs.YthlecmmngldodaaDoor
open Go.RowKit Go.Sort

set_option maxRecDepth 100000 in
set_option maxHeartbeats 1000000 in
theorem SameChunks_any (A B : Option Addr) (n m c d : Nat) (xs ys : List (List UInt8)) (w : World) (hx : Lst w A n xs) (hy : Lst w B m ys) :
    Calls Tryd.prog 15 #[.slice A n c, .slice B m d] w fun e w' => e = .returned (.bool (decide (xs = ys))) ∧ Below w.heap.size w w' := by
  have hxl := hx.len
  have hyl := hy.len
  have hnl := hx.le
  have hml := hy.le
  go_enter Tryd.func15, Tryd.ntmps15
  by_cases hnm : n = m
  · subst hnm
    have Hx := Lib.hid hx
    have Hy := Lib.hid hy
    have Hxl := Lib.hid hxl
    have Hyl := Lib.hid hyl
    clear hx hy hxl hyl
    go_wp2_with fail
    go_loopw [5] (fun v5 wr => ∃ k : Nat, k ≤ n ∧ v5 = .int .i64 (k : Int) ∧ xs.take k = ys.take k ∧ Below w.heap.size w wr) (fun v5 _ => n - (intOf v5).toNat)
    case atStart => exact ⟨0, by omega, rfl, rfl, Below.refl _ _⟩
    case round =>
      obtain ⟨k, hk, rfl, hpre, hB⟩ := hrel
      by_cases hlt : k < n
      · obtain ⟨b, off, v, x, rfl, hxk, cx, hrx, _⟩ := (Hx.out.below hB).at_ hlt
        obtain ⟨b', off', u, y, rfl, hyk, cy, hry, _⟩ := (Hy.out.below hB).at_ hlt
        have htk := take_succ_eq hxk hyk
        have hcx : ∀ j, (convert 22 9 (.slice v.a v.n v.c)).run Tryd.prog (wr.drewN j) = .ok (.string (str x)) (wr.drewN j) := fun j => convert_bytes v.a v.n v.c x _ (hrx.drewN j)
        have hcy : ∀ j, (convert 22 9 (.slice u.a u.n u.c)).run Tryd.prog (wr.drewN j) = .ok (.string (str y)) (wr.drewN j) := fun j => convert_bytes u.a u.n u.c y _ (hry.drewN j)
        have hsb := str_beq x y
        have HB := Lib.hid hB
        by_cases hxy : x = y
        · have Hs := Lib.hid (htk.2 ⟨hpre, hxy⟩)
          have hsb2 : ((str x).toList == (str y).toList) = true := by rw [hsb, decide_eq_true hxy]
          have hsb3 : ((str x).toList != (str y).toList) = false := by rw [bne, hsb2]; rfl
          clear hB hpre htk hxk hyk hrx hry hsb hxy
          go_upto_region 6 with fail
          go_quiet (fail)
          have HBq := Lib.hid (below_drewN HB.out nq)
          clear hcx hcy
          generalize wr.drewN nq = wq at *
          go_wp2_with fail
          exact ⟨⟨k + 1, by omega, by go_num, Hs.out, HBq.out⟩, by simp [intOf]; omega⟩
        · have hne : xs ≠ ys := fun e => hxy (by rw [e, hyk] at hxk; exact (Option.some.inj hxk).symm)
          have Hv := Lib.hid (decide_eq_false hne)
          have hsb2 : ((str x).toList == (str y).toList) = false := by rw [hsb, decide_eq_false hxy]
          have hsb3 : ((str x).toList != (str y).toList) = true := by rw [bne, hsb2]; rfl
          clear hB hpre htk hxk hyk hne hrx hry hsb hxy
          go_upto_region 6 with fail
          go_quiet (fail)
          have HBq := Lib.hid (below_drewN HB.out nq)
          clear hcx hcy
          generalize wr.drewN nq = wq at *
          go_wp2_with fail
          go_ret
          exact ⟨by rw [Hv.out]; rfl, HBq.out⟩
      · have he : xs = ys := by
          rw [List.take_of_length_le (by have := Hxl.out; omega), List.take_of_length_le (by have := Hyl.out; omega)] at hpre
          exact hpre
        have Hv := Lib.hid (decide_eq_true he)
        have HB := Lib.hid hB
        clear hpre he hB
        go_wp2_with fail
        go_ret
        exact ⟨by rw [Hv.out]; rfl, HB.out⟩
  · have hne : xs ≠ ys := fun e => hnm (by rw [← hxl, ← hyl, e])
    have Hv := Lib.hid (decide_eq_false hne)
    have hd : ((n : Int) == (m : Int)) = false := by rw [beq_eq_false_iff_ne]; omega
    clear hx hy hxl hyl hne
    go_wp2_with fail
    go_ret
    exact ⟨by rw [Hv.out]; rfl, Below.refl _ _⟩

theorem fetchC_tree {W : World} {B : Nat} {tr : Sum32} {A : Option Addr} {n c : Nat} (h : Blk W B 35 (fetchC tr A n c).toArray) : W.rangeAt B 0 (sumC tr) := fun j v hv => by
  rw [h.cell, Nat.zero_add, List.getElem?_toArray]
  unfold fetchC
  rw [List.getElem?_append_left (List.getElem?_eq_some_iff.1 hv).1]
  exact hv
set_option maxRecDepth 100000 in
set_option maxHeartbeats 1000000 in
theorem RSame_any (tr tr' : Sum32) (A B : Option Addr) (n m c d : Nat) (xs ys : List (List UInt8)) (w : World) (hx : Lst w A n xs) (hy : Lst w B m ys) :
    Calls Tryd.prog 19 #[.agg (fetchC tr A n c).toArray, .agg (fetchC tr' B m d).toArray] w fun e w' => e = .returned (.bool (decide (tr = tr' ∧ xs = ys))) ∧ Below w.heap.size w w' := by
  go_enter Tryd.func19, Tryd.ntmps19
  go_upto_region 1 with fail
  obtain ⟨w1, hw1⟩ : ∃ w1, w1 = (w.alloc (.cells (fetchC tr A n c).toArray 35)).alloc (.cells (fetchC tr' B m d).toArray 35) := ⟨_, rfl⟩
  have hB1 : Below w.heap.size w w1 := by rw [hw1]; exact ((Below.refl _ _).alloc (Nat.le_refl _) _).alloc (by simp) _
  have hC1 : Blk w1 w.heap.size 35 (fetchC tr A n c).toArray := by rw [hw1]; exact (Blk.new _ _ _).alloc _
  have hC2 : Blk w1 (w.heap.size + 1) 35 (fetchC tr' B m d).toArray := by
    rw [hw1]
    have := Blk.new (w.alloc (.cells (fetchC tr A n c).toArray 35)) 35 (fetchC tr' B m d).toArray
    rwa [World.size_alloc] at this
  rw [← hw1]
  clear hw1
  have c1 : w1.cell? ⟨w.heap.size, 32, none⟩ = some (.slice A n c) := by rw [hC1.cell]; exact fetchC_have _ _ _ _
  have c2 : w1.cell? ⟨w.heap.size + 1, 32, none⟩ = some (.slice B m d) := by rw [hC2.cell]; exact fetchC_have _ _ _ _
  have r1 := fetchC_tree hC1
  have r2 := fetchC_tree hC2
  have hE := run_eql_sum tr tr'
  have hS := SameChunks_any A B n m c d xs ys w1 (hx.below hB1) (hy.below hB1)
  have HS := Lib.hid hS
  have R1 := Lib.hid r1
  have R2 := Lib.hid r2
  have HB1 := Lib.hid hB1
  clear hC1 hC2 r1 r2 hS hB1 hx hy
  by_cases ht : tr = tr'
  · rw [decide_eq_true ht] at hE
    have Ht := Lib.hid ht
    clear ht
    go_wp2_with (first | (refine wpList_load_mid_g (by first | rfl | simp [Region.wanted, yielded]) 33 (.tmp 5) rfl w.heap.size 0 rfl (sumC tr) _ R1.out und32 rfl (by rw [sumC_len]; kernel_rfl) ?_) | (refine wpList_load_mid_g (by first | rfl | simp [Region.wanted, yielded]) 33 (.tmp 7) rfl (w.heap.size + 1) 0 rfl (sumC tr') _ R2.out und32 rfl (by rw [sumC_len]; kernel_rfl) ?_))
    refine HS.out.mono ?_
    rintro e w2 ⟨rfl, hb2⟩
    have Hb := Lib.hid (HB1.out.trans (hb2.mono HB1.out.size))
    clear hb2
    go_wp2_with fail
    go_ret
    exact ⟨by rw [show decide (tr = tr' ∧ xs = ys) = decide (xs = ys) from decide_eq_decide.2 ⟨fun h => h.2, fun h => ⟨Ht.out, h⟩⟩]; rfl, Hb.out⟩
  · rw [decide_eq_false ht] at hE
    have Ht := Lib.hid ht
    clear ht
    go_wp2_with (first | (refine wpList_load_mid_g (by first | rfl | simp [Region.wanted, yielded]) 33 (.tmp 5) rfl w.heap.size 0 rfl (sumC tr) _ R1.out und32 rfl (by rw [sumC_len]; kernel_rfl) ?_) | (refine wpList_load_mid_g (by first | rfl | simp [Region.wanted, yielded]) 33 (.tmp 7) rfl (w.heap.size + 1) 0 rfl (sumC tr') _ R2.out und32 rfl (by rw [sumC_len]; kernel_rfl) ?_))
    go_ret
    exact ⟨by rw [decide_eq_false (fun h => Ht.out h.1)]; rfl, HB1.out⟩
end Go.Proofs.YthlecmmngldodaaDoor
