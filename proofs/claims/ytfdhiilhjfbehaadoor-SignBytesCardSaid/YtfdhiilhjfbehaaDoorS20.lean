/- Parts of the laws: same. -/
import Derived.Test.YtfdhiilhjfbehaaDoorS19
namespace Go.Proofs.YtfdhiilhjfbehaaDoor
open Go.RowKit Go.Sort

theorem blk_mid {W : World} {B : Nat} {t : TypeId} {l m r : List Value} (h : Blk W B t (l ++ m ++ r).toArray) : W.rangeAt B l.length m := fun j v hv => by
  have hj : j < m.length := (List.getElem?_eq_some_iff.1 hv).1
  rw [h.cell, List.getElem?_toArray, List.append_assoc, List.getElem?_append_right (by omega), Nat.add_sub_cancel_left, List.getElem?_append_left hj]
  exact hv
theorem blk_left {W : World} {B : Nat} {t : TypeId} {l r : List Value} (h : Blk W B t (l ++ r).toArray) : W.rangeAt B 0 l := fun j v hv => by
  have hj : j < l.length := (List.getElem?_eq_some_iff.1 hv).1
  rw [h.cell, List.getElem?_toArray, Nat.zero_add, List.getElem?_append_left hj]
  exact hv
theorem sgn_sig {W : World} {B : Nat} {t : TypeId} {i : Int} {A : Option Addr} {n c : Nat} {D : Option Addr} {m d : Nat} {k : Sc} {e : Int} (h : Blk W B t (sgnV i A n c D m d k e).toArray) : W.rangeAt B 0 (sgV i A n c D m d) := by
  unfold sgnV at h; rw [List.append_assoc] at h; exact blk_left h
theorem sgn_sec {W : World} {B : Nat} {t : TypeId} {i : Int} {A : Option Addr} {n c : Nat} {D : Option Addr} {m d : Nat} {k : Sc} {e : Int} (h : Blk W B t (sgnV i A n c D m d k e).toArray) : W.rangeAt B 3 (secV k) := blk_mid (l := sgV i A n c D m d) h
theorem sgn_st {W : World} {B : Nat} {t : TypeId} {i : Int} {A : Option Addr} {n c : Nat} {D : Option Addr} {m d : Nat} {k : Sc} {e : Int} (h : Blk W B t (sgnV i A n c D m d k e).toArray) : W.cell? ⟨B, 37, none⟩ = some (.int .i64 e) := by
  unfold sgnV at h
  rw [h.cell, List.getElem?_toArray, List.getElem?_append_right (by rw [List.length_append, sgV_len, secV_len]; omega), List.length_append, sgV_len, secV_len]; rfl

set_option maxRecDepth 100000 in
set_option maxHeartbeats 1000000 in
theorem same_any (i1 i2 : Int) (C1 D1 C2 D2 : Option Addr) (n1 c1 m1 d1 n2 c2 m2 d2 : Nat) (k1 k2 : Sc) (s1 s2 : Int) (ch1 pa1 ch2 pa2 : List Sum32) (w : World) (h1 : Rd w 32 C1 n1 (ch1.flatMap sumC)) (h2 : Rd w 32 D1 m1 (pa1.flatMap sumC)) (h3 : Rd w 32 C2 n2 (ch2.flatMap sumC)) (h4 : Rd w 32 D2 m2 (pa2.flatMap sumC)) (l1 : n1 ≤ 1000) (l2 : m1 ≤ 1000) (l3 : n2 ≤ 1000) (l4 : m2 ≤ 1000) :
    Calls Tryd.prog 16 #[.agg (sgnV i1 C1 n1 c1 D1 m1 d1 k1 s1).toArray, .agg (sgnV i2 C2 n2 c2 D2 m2 d2 k2 s2).toArray] w fun e w' => e = .returned (.bool (decide ((i1 = i2 ∧ ch1 = ch2 ∧ pa1 = pa2) ∧ k1 = k2 ∧ s1 = s2))) ∧ Below w.heap.size w w' := by
  obtain ⟨d28, hd28, hrow28⟩ := und28
  obtain ⟨d37, hd37, hrow37⟩ := und37
  obtain ⟨R, hR⟩ : ∃ R, R = decide ((i1 = i2 ∧ ch1 = ch2 ∧ pa1 = pa2) ∧ k1 = k2 ∧ s1 = s2) := ⟨_, rfl⟩
  rw [← hR]
  have HR := Lib.hid hR
  clear hR
  go_enter Tryd.func16, Tryd.ntmps16
  go_upto_region 1 with fail
  obtain ⟨w1, hw1⟩ : ∃ w1, w1 = (w.alloc (.cells (sgnV i1 C1 n1 c1 D1 m1 d1 k1 s1).toArray 39)).alloc (.cells (sgnV i2 C2 n2 c2 D2 m2 d2 k2 s2).toArray 39) := ⟨_, rfl⟩
  have hB1 : Below w.heap.size w w1 := by rw [hw1]; exact ((Below.refl _ _).alloc (Nat.le_refl _) _).alloc (by simp) _
  have hX1 : Blk w1 w.heap.size 39 (sgnV i1 C1 n1 c1 D1 m1 d1 k1 s1).toArray := by rw [hw1]; exact (Blk.new _ _ _).alloc _
  have hY1 : Blk w1 (w.heap.size + 1) 39 (sgnV i2 C2 n2 c2 D2 m2 d2 k2 s2).toArray := by
    have := Blk.new (w.alloc (.cells (sgnV i1 C1 n1 c1 D1 m1 d1 k1 s1).toArray 39)) 39 (sgnV i2 C2 n2 c2 D2 m2 d2 k2 s2).toArray
    rw [World.size_alloc] at this
    rw [hw1]; exact this
  rw [← hw1]
  try simp only [World.size_alloc]
  clear hw1
  have hsz1 := hB1.size
  have HX := Lib.hid hX1
  have HY := Lib.hid hY1
  have HA1 := Lib.hid (sgn_sig hX1)
  have HA2 := Lib.hid (sgn_sig hY1)
  have HB := Lib.hid hB1
  have H1 := h1.below hB1
  have H2 := h2.below hB1
  have H3 := h3.below hB1
  have H4 := h4.below hB1
  have Hsm := Lib.hid (Same16_any i1 i2 C1 D1 C2 D2 n1 c1 m1 d1 n2 c2 m2 d2 ch1 pa1 ch2 pa2 w1 H1 H2 H3 H4 l1 l2 l3 l4)
  clear hX1 hY1 hB1 h1 h2 h3 h4 H1 H2 H3 H4
  go_wp2_with (first | (refine wpList_load_mid_g (by first | rfl | simp [Region.wanted, yielded]) 37 (.tmp 5) rfl w.heap.size 0 rfl (sgV i1 C1 n1 c1 D1 m1 d1) d37 HA1.out hd37 hrow37 (by rw [sgV_len]; kernel_rfl) ?_) | (refine wpList_load_mid_g (by first | rfl | simp [Region.wanted, yielded]) 37 (.tmp 7) rfl (w.heap.size + 1) 0 rfl (sgV i2 C2 n2 c2 D2 m2 d2) d37 HA2.out hd37 hrow37 (by rw [sgV_len]; kernel_rfl) ?_))
  refine Hsm.out.mono ?_
  rintro e w2 ⟨rfl, hb2⟩
  have hX2 := HX.out.below hb2 HX.out.lt
  have hY2 := HY.out.below hb2 HY.out.lt
  have HS1 := Lib.hid (sgn_sec hX2)
  have HS2 := Lib.hid (sgn_sec hY2)
  have f1 : w2.cell? ⟨w.heap.size, 37, none⟩ = some (.int .i64 s1) := sgn_st hX2
  have f2 : w2.cell? ⟨w.heap.size + 1, 37, none⟩ = some (.int .i64 s2) := sgn_st hY2
  have HB2 := Lib.hid (HB.out.trans (hb2.mono hsz1))
  clear hb2 hX2 hY2 Hsm HA1 HA2
  by_cases e0 : i1 = i2 ∧ ch1 = ch2 ∧ pa1 = pa2
  rotate_left
  · rw [decide_eq_false e0]
    have Hr := Lib.hid (show R = false by rw [HR.out]; exact decide_eq_false (fun h => e0 h.1))
    clear e0
    go_wp2_with fail
    go_ret
    exact ⟨by rw [Hr.out]; rfl, HB2.out⟩
  rw [decide_eq_true e0]
  have hE := run_eql_sec k1 k2
  by_cases e1 : k1 = k2
  rotate_left
  · have g : decide (k1 = k2) = false := decide_eq_false e1
    have Hr := Lib.hid (show R = false by rw [HR.out]; exact decide_eq_false (fun h => e1 h.2.1))
    rw [g] at hE
    clear e0 e1 g
    go_wp2_with (first | (refine wpList_load_mid_g (by first | rfl | simp [Region.wanted, yielded]) 28 (.tmp 11) rfl w.heap.size 3 rfl (secV k1) d28 HS1.out hd28 hrow28 (by rw [secV_len]; kernel_rfl) ?_) | (refine wpList_load_mid_g (by first | rfl | simp [Region.wanted, yielded]) 28 (.tmp 13) rfl (w.heap.size + 1) 3 rfl (secV k2) d28 HS2.out hd28 hrow28 (by rw [secV_len]; kernel_rfl) ?_))
    go_ret
    exact ⟨by rw [Hr.out]; rfl, HB2.out⟩
  have g : decide (k1 = k2) = true := decide_eq_true e1
  have Hr := Lib.hid (show R = (s1 == s2) by rw [HR.out, Bool.eq_iff_iff]; simp [e0, e1])
  rw [g] at hE
  clear e0 e1 g
  go_wp2_with (first | (refine wpList_load_mid_g (by first | rfl | simp [Region.wanted, yielded]) 28 (.tmp 11) rfl w.heap.size 3 rfl (secV k1) d28 HS1.out hd28 hrow28 (by rw [secV_len]; kernel_rfl) ?_) | (refine wpList_load_mid_g (by first | rfl | simp [Region.wanted, yielded]) 28 (.tmp 13) rfl (w.heap.size + 1) 3 rfl (secV k2) d28 HS2.out hd28 hrow28 (by rw [secV_len]; kernel_rfl) ?_))
  go_ret
  exact ⟨by rw [Hr.out]; rfl, HB2.out⟩
end Go.Proofs.YtfdhiilhjfbehaaDoor
