/- Package graph: the place of a way in a list. -/
import Derived.Test.YtgelchbbknckcaaG6
namespace Go.Proofs.Ytgelchbbknckcaa
open Go.RowKit Go.Sort

set_option maxRecDepth 100000 in
set_option maxHeartbeats 1000000 in
theorem ways1_any (y x : Wm) (g : Nat) (w : World) (hg : Blk w g 70 (wmV x).toArray) (hyo : Wok w y) (hxo : Wok w x) (hyf : y.f = true) (hxf : x.f = true) :
    Calls Try.prog 39 #[.agg (wmV y).toArray, .pointer (some ⟨g, 0, none⟩)] w fun e w' => e = .returned (.bool (decide (y.w = x.w))) ∧ Below w.heap.size w w' := by
  obtain ⟨d70, hd70, hrow70⟩ := und70
  obtain ⟨R, hR⟩ : ∃ R, R = decide (y.w = x.w) := ⟨_, rfl⟩
  rw [← hR]
  obtain ⟨Q, hQ⟩ : ∃ Q, Q = Gr.cmpW y.w x.w := ⟨_, rfl⟩
  have hq : R = (Q == 0) := by
    rw [hR, hQ]
    by_cases h : y.w = x.w
    · rw [decide_eq_true h, h, Gr.cmpW_self]; rfl
    · rw [decide_eq_false h]
      symm
      rw [beq_eq_false_iff_ne]
      exact fun e => h (Gr.cmpW_eq e)
  have Hq := Lib.hid hq
  have HQ := Lib.hid hQ
  clear hR hQ hq
  have HG := Lib.hid hg
  go_enter Try.func39, Try.ntmps39
  go_upto_region 1 with fail
  obtain ⟨w1, hw1⟩ : ∃ v, v = w.alloc (.cells (wmV y).toArray 70) := ⟨_, rfl⟩
  have hB1 : Below w.heap.size w w1 := by rw [hw1]; exact (Below.refl _ _).alloc (Nat.le_refl _) _
  have hO1 : Blk w1 w.heap.size 70 (wmV y).toArray := by rw [hw1]; exact Blk.new _ _ _
  rw [← hw1]
  clear hw1 hg
  have hc := compareW y x w1 (hyo.below hB1) (hxo.below hB1) hyf hxf
  rw [← HQ.out] at hc
  have Hc := Lib.hid hc
  have HO1 := Lib.hid hO1
  have HG1 := Lib.hid (HG.out.below hB1 HG.out.lt)
  have HB1 := Lib.hid hB1
  clear hc hO1 hB1 hyo hxo hyf hxf HG
  go_wp2_with (first | (refine wpList_load_mid rfl 70 (.tmp 2) rfl w.heap.size 0 rfl (wmV y) d70 (Blk.range HO1.out) hd70 hrow70 (by rw [wmV_len]; kernel_rfl) ?_) | (refine wpList_load_mid rfl 70 (.tmp 1) rfl g 0 rfl (wmV x) d70 (Blk.range HG1.out) hd70 hrow70 (by rw [wmV_len]; kernel_rfl) ?_))
  refine Hc.out.mono ?_
  rintro e w2 ⟨rfl, hb2⟩
  have HB2 := Lib.hid (HB1.out.trans (hb2.mono HB1.out.size))
  clear hb2 Hc HO1 HG1 HB1
  go_wp2_with fail
  go_ret
  exact ⟨by rw [Hq.out]; rfl, HB2.out⟩
set_option maxRecDepth 100000 in
set_option maxHeartbeats 2000000 in
theorem IndexFunc_any (A : Option Addr) (n c : Nat) (ws : List Wm) (g : Nat) (x : Wm) (w : World) (hr : Rd w 4 A n (ws.flatMap wmV)) (hn : n ≤ 1000000) (hok : ∀ x ∈ ws, Wok w x ∧ x.f = true) (hg : Blk w g 70 (wmV x).toArray) (hxo : Wok w x) (hxf : x.f = true) (hx : x ∈ ws) :
    Calls Try.prog 38 #[.slice A n c, .func (.func 39) #[] #[.pointer (some ⟨g, 0, none⟩)]] w fun e w' => (∃ (k : Nat) (y : Wm), e = .returned (.int .i64 (k : Int)) ∧ ws[k]? = some y ∧ y.w = x.w) ∧ Below w.heap.size w w' := by
  obtain ⟨i70, hi70, hz70, hs70, hy70⟩ := info_parts info70
  obtain ⟨d70, hd70, hrow70⟩ := und70
  have hlen := hr.lenf wmV_len (by omega)
  have Hr := Lib.hid hr
  have Hok := Lib.hid hok
  have Hlen := Lib.hid hlen
  have HG := Lib.hid hg
  have Hxo := Lib.hid hxo
  have Hx := Lib.hid hx
  clear hr hok hlen hg hxo hx
  go_enter Try.func38, Try.ntmps38
  go_wp2_with fail
  go_loopw [8] (fun v8 wr => ∃ k : Nat, v8 = .int .i64 (k : Int) ∧ k ≤ n ∧ (∀ (j : Nat) (y : Wm), j < k → ws[j]? = some y → y.w ≠ x.w) ∧ Below w.heap.size w wr) (fun v8 _ => n - (intOf v8).toNat)
  case atStart => exact ⟨0, rfl, by omega, fun j y h => absurd h (Nat.not_lt_zero _), Below.refl _ _⟩
  case round =>
    obtain ⟨k, rfl, hk, hno, hB⟩ := hrel
    have Hno := Lib.hid hno
    have HB := Lib.hid hB
    have hsz := hB.size
    clear hno hB
    by_cases hlt : k < n
    · obtain ⟨b, off, y, rfl, hy, hcy⟩ := (Hr.out.below HB.out).flat_ wmV_len (by omega) hlt
      have hgy : wr.rangeAt b (off + k * 4) (wmV y) := fun j v hv => by
        have := hcy j v hv
        rwa [← Nat.add_assoc] at this
      have Hgy := Lib.hid hgy
      have Hy := Lib.hid hy
      clear hgy hy hcy
      go_wp2_with (refine wpList_load_mid rfl 70 (.tmp 14) rfl b (off + k * 4) rfl (wmV y) d70 Hgy.out hd70 hrow70 (by rw [wmV_len]; kernel_rfl) ?_)
      obtain ⟨hyo, hyf⟩ := Hok.out y (List.mem_of_getElem? Hy.out)
      obtain ⟨R, hR⟩ : ∃ R, R = decide (y.w = x.w) := ⟨_, rfl⟩
      have hc := ways1_any y x g wr (HG.out.below HB.out HG.out.lt) (hyo.below HB.out) (Hxo.out.below HB.out) hyf hxf
      rw [← hR] at hc
      refine hc.mono ?_
      rintro e w2 ⟨rfl, hb2⟩
      have HB2 := Lib.hid (HB.out.trans (hb2.mono hsz))
      clear hc hb2 hyo
      cases R with
      | true =>
        have hyx : y.w = x.w := of_decide_eq_true hR.symm
        have Hyx := Lib.hid hyx
        clear hR hyx
        go_wp2_with fail
        go_ret
        exact ⟨⟨k, y, rfl, Hy.out, Hyx.out⟩, HB2.out⟩
      | false =>
        have hyx : y.w ≠ x.w := of_decide_eq_false hR.symm
        have hno' : ∀ (j : Nat) (z : Wm), j < k + 1 → ws[j]? = some z → z.w ≠ x.w := fun j z hj hz => by
          by_cases hjk : j = k
          · subst hjk; rw [Hy.out] at hz; cases hz; exact hyx
          · exact Hno.out j z (by omega) hz
        have Hno' := Lib.hid hno'
        clear hR hyx hno'
        go_wp2_with fail
        exact ⟨⟨k + 1, by go_num, by omega, Hno'.out, HB2.out⟩, by simp [intOf]; omega⟩
    · exfalso
      obtain ⟨j, hj, e⟩ := List.mem_iff_getElem.1 Hx.out
      exact Hno.out j x (by have := Hlen.out; omega) (by rw [List.getElem?_eq_getElem hj, e]) rfl
end Go.Proofs.Ytgelchbbknckcaa
