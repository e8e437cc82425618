/- The reference's Valid. -/
import Derived.Test.YteofgkdpknaapaaN37
namespace Go.Proofs.Yteofgkdpknaapaa
open Go.RowKit Go.Sort

def vF (k u n : Int) (num dat nd nm sg : Bool) : Bool :=
  decide (0 ≤ u ∧ u < 8) && (if k = 1 then decide (n = 0) && nd && nm else if k = 2 then decide (n = 0) && nd && sg else if k = 3 then num && nd && nm else if k = 4 then num && dat && nm else false)
theorem validP_vF (p : Pk) : validP p = vF p.kind p.who p.n (decide (0 ≤ p.n ∧ p.n < 256)) (decide (p.data.length ≤ 1024 ∧ p.proof.length ≤ 8)) (noData p) (noMeta p) (signedP p.body p.sigs) := rfl
set_option maxRecDepth 100000 in
set_option maxHeartbeats 2000000 in
theorem Valid_any (v : Pv) (p : Pk) (w : World) (hp : PvOk w v p) :
    Calls Try.prog 28 #[.agg (pvC v).toArray] w fun e w' => e = .returned (.bool (validP p)) ∧ Below w.heap.size w w' := by
  obtain ⟨sg, hsg⟩ : ∃ b, b = signedP p.body p.sigs := ⟨_, rfl⟩
  obtain ⟨b3, h3⟩ : ∃ b : Bool, b = decide (0 ≤ v.n ∧ v.n < 256) := ⟨_, rfl⟩
  obtain ⟨b4, h4⟩ : ∃ b : Bool, b = decide (v.dn ≤ 1024 ∧ v.pn ≤ 8) := ⟨_, rfl⟩
  obtain ⟨b5, h5⟩ : ∃ b : Bool, b = decide (v.dn = 0 ∧ v.pn = 0) := ⟨_, rfl⟩
  obtain ⟨b6, h6⟩ : ∃ b : Bool, b = decide (v.bn = 0 ∧ v.sn = 0) := ⟨_, rfl⟩
  have hl := hp.lens
  have hv : validP p = vF v.k v.u v.n b3 b4 b5 b6 sg := by
    have e5 : noData p = b5 := by
      rw [h5]; unfold noData
      rw [Bool.eq_iff_iff, Bool.and_eq_true, List.isEmpty_iff_length_eq_zero, List.isEmpty_iff_length_eq_zero, decide_eq_true_eq]
      omega
    have e6 : noMeta p = b6 := by
      rw [h6]; unfold noMeta
      rw [Bool.eq_iff_iff, Bool.and_eq_true, List.isEmpty_iff_length_eq_zero, List.isEmpty_iff_length_eq_zero, decide_eq_true_eq]
      omega
    have e4 : decide (p.data.length ≤ 1024 ∧ p.proof.length ≤ 8) = b4 := by rw [h4]; exact decide_eq_decide.2 (by omega)
    rw [validP_vF, e4, e5, e6, h3, hsg, hp.1.1, hp.1.2.1, hp.1.2.2]
  rw [hv]
  obtain ⟨d37, hd37, hrow37⟩ := und37r
  obtain ⟨w1, hw1⟩ : ∃ q, q = w.alloc (.cells (pvC v).toArray 39) := ⟨_, rfl⟩
  have hB1 : Below w.heap.size w w1 := by rw [hw1]; exact (Below.refl _ _).alloc (Nat.le_refl _) _
  have hX1 : Blk w1 w.heap.size 39 (pvC v).toArray := by rw [hw1]; exact Blk.new _ _ _
  have x0 : w1.cell? ⟨w.heap.size, 0, none⟩ = some (.int .i64 v.k) := (hX1.cell 0).trans rfl
  have x1 : w1.cell? ⟨w.heap.size, 1, none⟩ = some (.int .i64 v.u) := (hX1.cell 1).trans rfl
  have x2 : w1.cell? ⟨w.heap.size, 2, none⟩ = some (.int .i64 v.n) := (hX1.cell 2).trans rfl
  have x3 : w1.cell? ⟨w.heap.size, 3, none⟩ = some (.slice v.D v.dn v.dc) := (hX1.cell 3).trans rfl
  have x4 : w1.cell? ⟨w.heap.size, 4, none⟩ = some (.slice v.P v.pn v.pc) := (hX1.cell 4).trans rfl
  have x5 : w1.cell? ⟨w.heap.size, 5, none⟩ = some (.slice v.B v.bn v.bc) := (hX1.cell 5).trans rfl
  have x6 : w1.cell? ⟨w.heap.size, 6, none⟩ = some (.slice v.S v.sn v.sc) := (hX1.cell 6).trans rfl
  have HW1 := Lib.hid hw1
  have HX := Lib.hid (signed_row hX1)
  have HB := Lib.hid hB1
  have HP := Lib.hid (hp.below hB1)
  have Hl := Lib.hid hl
  have H3 := Lib.hid h3
  have H4 := Lib.hid h4
  have H5 := Lib.hid h5
  have H6 := Lib.hid h6
  have Hsg := Lib.hid hsg
  obtain ⟨R, hR⟩ : ∃ R, R = vF v.k v.u v.n b3 b4 b5 b6 sg := ⟨_, rfl⟩
  rw [← hR]
  have HR := Lib.hid hR
  clear hw1 hX1 hB1 hp hl h3 h4 h5 h6 hv hsg hR
  go_enter Try.func28, Try.ntmps28
  go_upto_region 1 with fail
  rw [← HW1.out]
  go_cut [3] from 7 to 14 (fun v3 wx => v3 = .bool b3 ∧ wx = w1)
  case first =>
    by_cases ha : 0 ≤ v.n
    rotate_left
    · have d1 : decide (v.n ≥ 0) = false := decide_eq_false (by omega)
      have d1' : ¬ (v.n ≥ 0) := by omega
      have hb : b3 = false := by rw [H3.out]; exact decide_eq_false (by omega)
      have Hb := Lib.hid hb
      clear hb
      go_wp2_with fail
      go_meet
      exact ⟨by rw [Hb.out], rfl⟩
    have d1 : decide (v.n ≥ 0) = true := decide_eq_true (by omega)
    have d1' : v.n ≥ 0 := by omega
    by_cases hc : v.n < 256
    rotate_left
    · have d2 : decide (v.n < 256) = false := decide_eq_false (by omega)
      have d2' : ¬ (v.n < 256) := by omega
      have hb : b3 = false := by rw [H3.out]; exact decide_eq_false (by omega)
      have Hb := Lib.hid hb
      clear hb
      go_wp2_with fail
      go_meet
      exact ⟨by rw [Hb.out], rfl⟩
    have d2 : decide (v.n < 256) = true := decide_eq_true (by omega)
    have d2' : v.n < 256 := by omega
    have hb : b3 = true := by rw [H3.out]; exact decide_eq_true (by omega)
    have Hb := Lib.hid hb
    clear hb
    go_wp2_with fail
    go_meet
    exact ⟨by rw [Hb.out], rfl⟩
  case' rest => skip
  obtain ⟨rfl, hwc⟩ := hcut
  have hwc2 := hwc.symm
  subst hwc2
  go_upto_region 2 with fail
  go_cut [4] from 15 to 24 (fun v4 wx => v4 = .bool b4 ∧ wx = w1)
  case first =>
    by_cases ha : v.dn ≤ 1024
    rotate_left
    · have d1 : decide ((v.dn : Int) ≤ 1024) = false := decide_eq_false (by omega)
      have d1' : ¬ ((v.dn : Int) ≤ 1024) := by omega
      have hb : b4 = false := by rw [H4.out]; exact decide_eq_false (by omega)
      have Hb := Lib.hid hb
      clear hb
      go_wp2_with fail
      go_meet
      exact ⟨by rw [Hb.out], rfl⟩
    have d1 : decide ((v.dn : Int) ≤ 1024) = true := decide_eq_true (by omega)
    have d1' : (v.dn : Int) ≤ 1024 := by omega
    by_cases hc : v.pn ≤ 8
    rotate_left
    · have d2 : decide ((v.pn : Int) ≤ 8) = false := decide_eq_false (by omega)
      have d2' : ¬ ((v.pn : Int) ≤ 8) := by omega
      have hb : b4 = false := by rw [H4.out]; exact decide_eq_false (by omega)
      have Hb := Lib.hid hb
      clear hb
      go_wp2_with fail
      go_meet
      exact ⟨by rw [Hb.out], rfl⟩
    have d2 : decide ((v.pn : Int) ≤ 8) = true := decide_eq_true (by omega)
    have d2' : (v.pn : Int) ≤ 8 := by omega
    have hb : b4 = true := by rw [H4.out]; exact decide_eq_true (by omega)
    have Hb := Lib.hid hb
    clear hb
    go_wp2_with fail
    go_meet
    exact ⟨by rw [Hb.out], rfl⟩
  case' rest => skip
  obtain ⟨rfl, hwc⟩ := hcut
  have hwc2 := hwc.symm
  subst hwc2
  go_upto_region 3 with fail
  go_cut [5] from 25 to 34 (fun v5 wx => v5 = .bool b5 ∧ wx = w1)
  case first =>
    by_cases ha : v.dn = 0
    rotate_left
    · have d1 : ((v.dn : Int) == 0) = false := by rw [beq_eq_false_iff_ne]; omega
      have hb : b5 = false := by rw [H5.out]; exact decide_eq_false (by omega)
      have Hb := Lib.hid hb
      clear hb
      go_wp2_with fail
      go_meet
      exact ⟨by rw [Hb.out], rfl⟩
    have d1 : ((v.dn : Int) == 0) = true := by rw [beq_iff_eq]; omega
    by_cases hc : v.pn = 0
    rotate_left
    · have d2 : ((v.pn : Int) == 0) = false := by rw [beq_eq_false_iff_ne]; omega
      have hb : b5 = false := by rw [H5.out]; exact decide_eq_false (by omega)
      have Hb := Lib.hid hb
      clear hb
      go_wp2_with fail
      go_meet
      exact ⟨by rw [Hb.out], rfl⟩
    have d2 : ((v.pn : Int) == 0) = true := by rw [beq_iff_eq]; omega
    have hb : b5 = true := by rw [H5.out]; exact decide_eq_true (by omega)
    have Hb := Lib.hid hb
    clear hb
    go_wp2_with fail
    go_meet
    exact ⟨by rw [Hb.out], rfl⟩
  case' rest => skip
  obtain ⟨rfl, hwc⟩ := hcut
  have hwc2 := hwc.symm
  subst hwc2
  go_upto_region 4 with fail
  go_cut [6] from 35 to 46 (fun v6 wx => v6 = .bool b6 ∧ wx = w1)
  case first =>
    by_cases ha : v.bn = 0
    rotate_left
    · have d1 : ((v.bn : Int) == 0) = false := by rw [beq_eq_false_iff_ne]; omega
      have hb : b6 = false := by rw [H6.out]; exact decide_eq_false (by omega)
      have Hb := Lib.hid hb
      clear hb
      go_wp2_with fail
      go_meet
      exact ⟨by rw [Hb.out], rfl⟩
    have d1 : ((v.bn : Int) == 0) = true := by rw [beq_iff_eq]; omega
    by_cases hc : v.sn = 0
    rotate_left
    · have d2 : ((v.sn : Int) == 0) = false := by rw [beq_eq_false_iff_ne]; omega
      have hb : b6 = false := by rw [H6.out]; exact decide_eq_false (by omega)
      have Hb := Lib.hid hb
      clear hb
      go_wp2_with fail
      go_meet
      exact ⟨by rw [Hb.out], rfl⟩
    have d2 : ((v.sn : Int) == 0) = true := by rw [beq_iff_eq]; omega
    have hb : b6 = true := by rw [H6.out]; exact decide_eq_true (by omega)
    have Hb := Lib.hid hb
    clear hb
    go_wp2_with fail
    go_meet
    exact ⟨by rw [Hb.out], rfl⟩
  case' rest => skip
  obtain ⟨rfl, hwc⟩ := hcut
  have hwc2 := hwc.symm
  subst hwc2
  go_upto_region 5 with fail
  by_cases hu1 : v.u < 0
  · have du1 : decide (v.u < 0) = true := decide_eq_true (by omega)
    have du1' : v.u < 0 := by omega
    have Hr := Lib.hid (show R = false by rw [HR.out]; unfold vF; rw [decide_eq_false (by omega)]; rfl)
    go_wp2_with fail
    go_ret
    exact ⟨by rw [Hr.out]; first | done | rfl, HB.out⟩
  have du1 : decide (v.u < 0) = false := decide_eq_false (by omega)
  have du1' : ¬ (v.u < 0) := by omega
  by_cases hu2 : 8 ≤ v.u
  · have du2 : decide (v.u ≥ 8) = true := decide_eq_true (by omega)
    have du2' : v.u ≥ 8 := by omega
    have Hr := Lib.hid (show R = false by rw [HR.out]; unfold vF; rw [decide_eq_false (by omega)]; rfl)
    go_wp2_with fail
    go_ret
    exact ⟨by rw [Hr.out]; first | done | rfl, HB.out⟩
  have du2 : decide (v.u ≥ 8) = false := decide_eq_false (by omega)
  have du2' : ¬ (v.u ≥ 8) := by omega
  have Hu := Lib.hid (show decide (0 ≤ v.u ∧ v.u < 8) = true from decide_eq_true (by omega))
  go_upto_region 7 with fail
  clear du1 du1' du2 du2' hu1 hu2
  by_cases k1 : v.k = 1
  · have g1 : (v.k == 1) = true := beq_iff_eq.2 k1
    have HR2 := Lib.hid (show R = (decide (v.n = 0) && b5 && b6) by rw [HR.out]; unfold vF; rw [Hu.out, Bool.true_and, if_pos k1])
    clear k1
    by_cases hn : v.n = 0
    rotate_left
    · have gn : (v.n == 0) = false := beq_eq_false_iff_ne.2 hn
      have hd : decide (v.n = 0) = false := decide_eq_false hn
      have Hr := Lib.hid (show R = false by rw [HR2.out, hd]; rfl)
      clear hd hn
      go_wp2_with fail
      go_ret
      exact ⟨by rw [Hr.out]; first | done | rfl, HB.out⟩
    have gn : (v.n == 0) = true := beq_iff_eq.2 hn
    have Hd := Lib.hid (show decide (v.n = 0) = true from decide_eq_true hn)
    clear hn
    cases b5 with
    | false =>
      have Hr := Lib.hid (show R = false by rw [HR2.out, Hd.out]; simp)
      go_wp2_with fail
      go_ret
      exact ⟨by rw [Hr.out]; first | done | rfl, HB.out⟩
    | true =>
      cases b6 with
      | false =>
        have Hr := Lib.hid (show R = false by rw [HR2.out, Hd.out]; simp)
        go_wp2_with fail
        go_ret
        exact ⟨by rw [Hr.out]; first | done | rfl, HB.out⟩
      | true =>
        have Hr := Lib.hid (show R = true by rw [HR2.out, Hd.out]; rfl)
        go_wp2_with fail
        go_ret
        exact ⟨by rw [Hr.out]; first | done | rfl, HB.out⟩
  have g1 : (v.k == 1) = false := beq_eq_false_iff_ne.2 k1
  by_cases k2 : v.k = 2
  · have g2 : (v.k == 2) = true := beq_iff_eq.2 k2
    have HR2 := Lib.hid (show R = (decide (v.n = 0) && b5 && sg) by rw [HR.out]; unfold vF; rw [Hu.out, Bool.true_and, if_neg k1, if_pos k2])
    clear k2 k1
    by_cases hn : v.n = 0
    rotate_left
    · have gn : (v.n == 0) = false := beq_eq_false_iff_ne.2 hn
      have hd : decide (v.n = 0) = false := decide_eq_false hn
      have Hr := Lib.hid (show R = false by rw [HR2.out, hd]; rfl)
      clear hd hn
      go_wp2_with fail
      go_ret
      exact ⟨by rw [Hr.out]; first | done | rfl, HB.out⟩
    have gn : (v.n == 0) = true := beq_iff_eq.2 hn
    have Hd := Lib.hid (show decide (v.n = 0) = true from decide_eq_true hn)
    clear hn
    cases b5 with
    | false =>
      have Hr := Lib.hid (show R = false by rw [HR2.out, Hd.out]; simp)
      go_wp2_with fail
      go_ret
      exact ⟨by rw [Hr.out]; first | done | rfl, HB.out⟩
    | true =>
      have Hr := Lib.hid (show R = sg by rw [HR2.out, Hd.out]; simp)
      go_wp2_with (refine wpList_load_mid_g (by first | rfl | simp [Region.wanted, yielded]) 37 (.tmp 77) rfl w.heap.size 5 rfl (sdC v.B v.bn v.bc v.S v.sn v.sc) d37 HX.out hd37 hrow37 (by kernel_rfl) ?_)
      refine (Signed_any v.B v.bn v.bc v.S v.sn v.sc p.body p.sigs _ Hl.out.2.2.1 HP.out.2.2.2.2.2).mono ?_
      rintro e w4 ⟨rfl, hb4⟩
      have HB4 := Lib.hid (HB.out.trans (hb4.mono HB.out.size))
      clear hb4
      rw [← Hsg.out]
      go_wp2_with fail
      go_ret
      exact ⟨by rw [Hr.out]; first | done | rfl, HB4.out⟩
  have g2 : (v.k == 2) = false := beq_eq_false_iff_ne.2 k2
  by_cases k3 : v.k = 3
  · have g3 : (v.k == 3) = true := beq_iff_eq.2 k3
    have HR2 := Lib.hid (show R = (b3 && b5 && b6) by rw [HR.out]; unfold vF; rw [Hu.out, Bool.true_and, if_neg k1, if_neg k2, if_pos k3])
    clear k3 k1 k2
    cases b3 with
    | false =>
      have Hr := Lib.hid (show R = false by rw [HR2.out]; simp)
      go_wp2_with fail
      go_ret
      exact ⟨by rw [Hr.out]; first | done | rfl, HB.out⟩
    | true =>
      cases b5 with
      | false =>
        have Hr := Lib.hid (show R = false by rw [HR2.out]; simp)
        go_wp2_with fail
        go_ret
        exact ⟨by rw [Hr.out]; first | done | rfl, HB.out⟩
      | true =>
        cases b6 with
        | false =>
          have Hr := Lib.hid (show R = false by rw [HR2.out]; simp)
          go_wp2_with fail
          go_ret
          exact ⟨by rw [Hr.out]; first | done | rfl, HB.out⟩
        | true =>
          have Hr := Lib.hid (show R = true by rw [HR2.out]; rfl)
          go_wp2_with fail
          go_ret
          exact ⟨by rw [Hr.out]; first | done | rfl, HB.out⟩
  have g3 : (v.k == 3) = false := beq_eq_false_iff_ne.2 k3
  by_cases k4 : v.k = 4
  · have g4 : (v.k == 4) = true := beq_iff_eq.2 k4
    have HR2 := Lib.hid (show R = (b3 && b4 && b6) by rw [HR.out]; unfold vF; rw [Hu.out, Bool.true_and, if_neg k1, if_neg k2, if_neg k3, if_pos k4])
    clear k4 k1 k2 k3
    cases b3 with
    | false =>
      have Hr := Lib.hid (show R = false by rw [HR2.out]; simp)
      go_wp2_with fail
      go_ret
      exact ⟨by rw [Hr.out]; first | done | rfl, HB.out⟩
    | true =>
      cases b4 with
      | false =>
        have Hr := Lib.hid (show R = false by rw [HR2.out]; simp)
        go_wp2_with fail
        go_ret
        exact ⟨by rw [Hr.out]; first | done | rfl, HB.out⟩
      | true =>
        cases b6 with
        | false =>
          have Hr := Lib.hid (show R = false by rw [HR2.out]; simp)
          go_wp2_with fail
          go_ret
          exact ⟨by rw [Hr.out]; first | done | rfl, HB.out⟩
        | true =>
          have Hr := Lib.hid (show R = true by rw [HR2.out]; rfl)
          go_wp2_with fail
          go_ret
          exact ⟨by rw [Hr.out]; first | done | rfl, HB.out⟩
  have g4 : (v.k == 4) = false := beq_eq_false_iff_ne.2 k4
  have Hr := Lib.hid (show R = false by rw [HR.out]; unfold vF; rw [if_neg k1, if_neg k2, if_neg k3, if_neg k4, Bool.and_false])
  clear k1 k2 k3 k4
  go_wp2_with fail
  go_ret
  exact ⟨by rw [Hr.out]; first | done | rfl, HB.out⟩
end Go.Proofs.Yteofgkdpknaapaa
