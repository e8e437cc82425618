/- Package graph's reference: Valid. -/
import Derived.Test.YtgelchbbknckcaaG10
namespace Go.Proofs.Ytgelchbbknckcaa
open Go.RowKit Go.Sort

theorem idxI_neg (vs : List Int) (x : Int) : idxI vs x < 0 ↔ x ∉ vs := by
  unfold idxI
  cases h : vs.findIdx? (fun a => a == x) with
  | none =>
    rw [List.findIdx?_eq_none_iff] at h
    exact ⟨fun _ hm => by have := h x hm; simp at this, fun _ => by show (-1 : Int) < 0; omega⟩
  | some i =>
    rw [List.findIdx?_eq_some_iff_getElem] at h
    obtain ⟨hl, he, _⟩ := h
    refine ⟨fun hlt => by have : (i : Int) < 0 := hlt; omega, fun hn => absurd ?_ hn⟩
    have : vs[i] = x := by simpa using he
    rw [← this]; exact List.getElem_mem hl

set_option maxRecDepth 100000 in
set_option maxHeartbeats 4000000 in
theorem RValid_any (A : Option Addr) (n c : Nat) (B : Option Addr) (m d : Nat) (vs : List Int) (ls : List Ln) (w : World) (hr : Rd w 1 A n (vs.map intV)) (hl : Rd w 8 B m (ls.flatMap lnV)) :
    Calls Try.prog 23 #[.agg (grV A n c B m d).toArray] w fun e w' => e = .returned (.bool (validB vs ls)) ∧ Below w.heap.size w w' := by
  obtain ⟨i53, hi53, hz53, hs53, hy53⟩ := info_parts info53
  obtain ⟨d53, hd53, hrow53⟩ := und53
  obtain ⟨d33, hd33, hrow33⟩ := und33
  obtain ⟨d28, hd28, hrow28⟩ := und28
  have hvl := hr.len1
  have hnl := hr.le
  have hml := hl.le
  have hll := hl.lenf lnV_len (by omega)
  obtain ⟨R, hR⟩ : ∃ R, R = validB vs ls := ⟨_, rfl⟩
  rw [← hR]
  unfold validB at hR
  rw [hvl, hll] at hR
  have HR := Lib.hid hR
  have Hr := Lib.hid hr
  have Hl := Lib.hid hl
  have Hvl := Lib.hid hvl
  have Hll := Lib.hid hll
  clear hR hr hl hvl hll
  go_enter Try.func23, Try.ntmps23
  go_upto_region 1 with fail
  obtain ⟨w1, hw1⟩ : ∃ v, v = w.alloc (.cells (grV A n c B m d).toArray 33) := ⟨_, rfl⟩
  have hB : Below w.heap.size w w1 := by rw [hw1]; exact (Below.refl _ _).alloc (Nat.le_refl _) _
  have hC : Blk w1 w.heap.size 33 (grV A n c B m d).toArray := by rw [hw1]; exact Blk.new _ _ _
  rw [← hw1]
  clear hw1
  have c0 : w1.cell? ⟨w.heap.size, 0, none⟩ = some (.slice A n c) := by rw [hC.cell]; rfl
  have c1 : w1.cell? ⟨w.heap.size, 1, none⟩ = some (.slice B m d) := by rw [hC.cell]; rfl
  replace Hr := Lib.hid (Hr.out.below hB)
  replace Hl := Lib.hid (Hl.out.below hB)
  have HC := Lib.hid hC
  have HB := Lib.hid hB
  clear hC hB
  by_cases hn16 : n ≤ 16
  rotate_left
  · have Hv := Lib.hid (show R = false by rw [HR.out, decide_eq_false (by omega)]; rfl)
    have d1 : decide ((16 : Int) < (n : Int)) = true := decide_eq_true (by omega)
    have d2 : decide (16 < n) = true := decide_eq_true (by omega)
    clear hn16
    go_wp2_with fail
    go_ret
    exact ⟨by rw [Hv.out]; rfl, HB.out⟩
  by_cases hm64 : m ≤ 64
  rotate_left
  · have Hv := Lib.hid (show R = false by rw [HR.out, decide_eq_false (by omega)]; rfl)
    have d1 : decide ((64 : Int) < (m : Int)) = true := decide_eq_true (by omega)
    have d2 : decide (64 < m) = true := decide_eq_true (by omega)
    have d3 : decide ((16 : Int) < (n : Int)) = false := decide_eq_false (by omega)
    have d4 : decide (16 < n) = false := decide_eq_false (by omega)
    clear hm64
    go_wp2_with fail
    go_ret
    exact ⟨by rw [Hv.out]; rfl, HB.out⟩
  have hR1 : R = (incF 0 vs && ls.all (validL vs)) := by rw [HR.out, decide_eq_true ⟨hn16, hm64⟩, Bool.true_and]
  replace HR := Lib.hid hR1
  clear hR1
  have d1 : decide ((64 : Int) < (m : Int)) = false := decide_eq_false (by omega)
  have d2 : decide (64 < m) = false := decide_eq_false (by omega)
  have d3 : decide ((16 : Int) < (n : Int)) = false := decide_eq_false (by omega)
  have d4 : decide (16 < n) = false := decide_eq_false (by omega)
  go_wp2_with fail
  clear d1 d2 d3 d4 c0 c1
  go_loopw [3] (fun v3 wr => ∃ (i : Nat) (least : Int), v3 = .int .i64 (i : Int) ∧ i ≤ n ∧ 0 ≤ least ∧ ((i = 0 ∧ least = 0) ∨ ∃ b, 0 < i ∧ vs[i - 1]? = some b ∧ least = b + 1) ∧ incF least (vs.drop i) = incF 0 vs ∧ Below w1.heap.size w1 wr) (fun v3 _ => n - (intOf v3).toNat)
  case atStart => exact ⟨0, 0, rfl, by omega, by omega, .inl ⟨rfl, rfl⟩, rfl, Below.refl _ _⟩
  case round =>
    obtain ⟨i, least, rfl, hi, hl0, hlst, hinc, hBr⟩ := hrel
    have Hlst := Lib.hid hlst
    have HBr := Lib.hid hBr
    have hszr := hBr.size
    have c0 : wr.cell? ⟨w.heap.size, 0, none⟩ = some (.slice A n c) := by rw [(HC.out.below hBr HC.out.lt).cell]; rfl
    clear hlst hBr
    by_cases hlt : i < n
    · obtain ⟨b, off, x, ea, hx, cx⟩ := (Hr.out.below HBr.out).at_ hlt
      subst ea
      have cx' : wr.cell? ⟨b, off + i, none⟩ = some (.int .i64 x) := cx
      obtain ⟨e1, e2⟩ := List.getElem?_eq_some_iff.1 hx
      rw [List.drop_eq_getElem_cons e1, e2, incF] at hinc
      have Hinc := Lib.hid hinc
      have Hx := Lib.hid hx
      clear hinc e1 e2 hx cx
      by_cases hin : 0 ≤ x ∧ x ≤ 60000
      · have Hin := Lib.hid (decide_eq_true hin)
        by_cases hi0 : i = 0
        · have hle : least = 0 := by
            rcases Hlst.out with ⟨_, h⟩ | ⟨_, h, _⟩
            · exact h
            · omega
          have hinc2 : incF (x + 1) (vs.drop (i + 1)) = incF 0 vs := by rw [← Hinc.out, hle, decide_eq_true hin, Bool.true_and]
          have Hinc2 := Lib.hid hinc2
          have c0r := cell_regrown c0
          have cxr := cell_regrown cx'
          have q1 : decide ((0 : Int) < (i : Int)) = false := decide_eq_false (by omega)
          have q2 : decide (0 < i) = false := decide_eq_false (by omega)
          clear hinc2 hle hi0
          go_upto_region 6 with fail
          have HI := Lib.hid (show ∀ W : World, Calls Try.prog 26 #[.int .i64 x, .int .i64 0, .int .i64 60000] W fun e w' => e = .returned (.bool true) ∧ w' = W from fun W => by have := In_any x 0 60000 W; rwa [Hin.out] at this)
          go_cut [47] from 23 to 46 (fun t47 wx => t47 = .bool false ∧ Below wr.heap.size wr wx)
          case first =>
            refine wp_region_web [0, 1, 2, 3, 4] 20 (by kernel_rfl) (by kernel_rfl) (fun _ _ d _ _ h => by cases d <;> exact h) (by kernel_rfl) (by kernel_rfl) rfl ?_
            simp only [pickOps, List.getElem?_cons_zero, List.getElem?_cons_succ]
            repeat (go_big_quiet_step (fail))
            refine wpQuiet_nil ?_
            refine web_start0 (fs := []) [.act 5 [], .plain [6, 7, 8, 9, 10, 11, 12, 13, 14, 15, 16, 17, 18, 19, 20, 21, 22, 23, 24]] _ _ (by kernel_rfl) (fun _ _ d _ _ h => by cases d <;> exact h) trivial (by decide) (by decide) (by kernel_rfl) (by kernel_rfl) (ext_drew (ext_refl _)) (by intro F hF; simp at hF) 20 (by decide) (by kernel_rfl) ?_
            intro v1 W hW _ o ho K hK
            cases ho
            have hbW : Below wr.heap.size wr W := ((Below.refl _ wr).drew).trans hW
            simp only [putS, List.foldl_nil, Act.put]
            have HI2 := Lib.hid (HI.out W)
            unfold StepP
            go_simp
            refine HI2.out.mono ?_
            rintro e W2 ⟨rfl, hw2⟩
            subst hw2
            refine hK _ _ (by intro F hF; simp at hF) (Below.refl _ _) ?_
            clear hK K HI2 hW
            intro v2 W3 hW3
            simp only [putS, List.foldl_nil, Act.put, pickOps, List.getElem?_cons_zero, List.getElem?_cons_succ]
            repeat (go_big_quiet_step (fail))
            refine wpQuiet_nil ?_
            refine ⟨by intro F hF; simp at hF, ?_⟩
            intro v3 W4 hW4 _
            have Hend := Lib.hid (hbW.trans ((hW3.trans (hW4.mono hW3.size)).mono hbW.size))
            simp only [Exit.then, putS, List.foldl_nil, Act.put]
            go_wp2_with fail
            go_meet
            exact ⟨rfl, Hend.out⟩
          case' rest => skip
          obtain ⟨rfl, hbq⟩ := hcut
          obtain ⟨wq, hwq⟩ : ∃ v, v = wc := ⟨_, rfl⟩
          subst hwq
          have HBq := Lib.hid (HBr.out.trans (hbq.mono hszr))
          have HBz := Lib.hid (HB.out.trans (HBq.out.mono HB.out.size))
          clear hbq c0r cxr c0 cx' q1 q2
          go_wp2_with fail
          exact ⟨⟨i + 1, x + 1, by go_num, by omega, by omega, .inr ⟨x, by omega, Hx.out, rfl⟩, Hinc2.out, HBq.out⟩, by simp [intOf]; omega⟩
        · obtain ⟨p, hp, hle⟩ : ∃ p, vs[i - 1]? = some p ∧ least = p + 1 := by
            rcases Hlst.out with ⟨h, _⟩ | ⟨p, _, h1, h2⟩
            · exact absurd h hi0
            · exact ⟨p, h1, h2⟩
          obtain ⟨i1, hi1⟩ : ∃ i1, i = i1 + 1 := ⟨i - 1, by omega⟩
          subst hi1
          rw [show i1 + 1 - 1 = i1 from rfl] at hp
          obtain ⟨b2, off2, p2, ea2, hp2, cp⟩ := (Hr.out.below HBr.out).at_ (show i1 < n by omega)
          cases ea2
          rw [hp] at hp2
          cases hp2
          have cp' : wr.cell? ⟨b, off + i1, none⟩ = some (.int .i64 p) := cp
          have c0r := cell_regrown c0
          have cxr := cell_regrown cx'
          have cpr := cell_regrown cp'
          have d0 : decide ((i1 : Int) + 1 < (n : Int)) = true := decide_eq_true (by omega)
          have d1 : decide (i1 + 1 < n) = true := decide_eq_true (by omega)
          clear cp hp
          by_cases hpx : p < x
          · have hinc2 : incF (x + 1) (vs.drop (i1 + 1 + 1)) = incF 0 vs := by rw [← Hinc.out, hle, decide_eq_true (show p + 1 ≤ x ∧ x ≤ 60000 from ⟨by omega, hin.2⟩), Bool.true_and]
            have Hinc2 := Lib.hid hinc2
            have q3 : decide (x ≤ p) = false := decide_eq_false (by omega)
            clear hinc2 hle
            go_upto_region 6 with fail
            have HI := Lib.hid (show ∀ W : World, Calls Try.prog 26 #[.int .i64 x, .int .i64 0, .int .i64 60000] W fun e w' => e = .returned (.bool true) ∧ w' = W from fun W => by have := In_any x 0 60000 W; rwa [Hin.out] at this)
            go_cut [47] from 23 to 46 (fun t47 wx => t47 = .bool false ∧ Below wr.heap.size wr wx)
            case first =>
              refine wp_region_web [0, 1, 2, 3, 4] 20 (by kernel_rfl) (by kernel_rfl) (fun _ _ d _ _ h => by cases d <;> exact h) (by kernel_rfl) (by kernel_rfl) rfl ?_
              simp only [pickOps, List.getElem?_cons_zero, List.getElem?_cons_succ]
              repeat (go_big_quiet_step (fail))
              refine wpQuiet_nil ?_
              refine web_start0 (fs := []) [.act 5 [], .plain [6, 7, 8, 9, 10, 11, 12, 13, 14, 15, 16, 17, 18, 19, 20, 21, 22, 23, 24]] _ _ (by kernel_rfl) (fun _ _ d _ _ h => by cases d <;> exact h) trivial (by decide) (by decide) (by kernel_rfl) (by kernel_rfl) (ext_drew (ext_refl _)) (by intro F hF; simp at hF) 20 (by decide) (by kernel_rfl) ?_
              intro v1 W hW _ o ho K hK
              cases ho
              have hbW : Below wr.heap.size wr W := ((Below.refl _ wr).drew).trans hW
              simp only [putS, List.foldl_nil, Act.put]
              have HI2 := Lib.hid (HI.out W)
              unfold StepP
              go_simp
              refine HI2.out.mono ?_
              rintro e W2 ⟨rfl, hw2⟩
              subst hw2
              refine hK _ _ (by intro F hF; simp at hF) (Below.refl _ _) ?_
              clear hK K HI2 hW
              intro v2 W3 hW3
              simp only [putS, List.foldl_nil, Act.put, pickOps, List.getElem?_cons_zero, List.getElem?_cons_succ]
              repeat (go_big_quiet_step (fail))
              refine wpQuiet_nil ?_
              refine ⟨by intro F hF; simp at hF, ?_⟩
              intro v3 W4 hW4 _
              have Hend := Lib.hid (hbW.trans ((hW3.trans (hW4.mono hW3.size)).mono hbW.size))
              simp only [Exit.then, putS, List.foldl_nil, Act.put]
              go_wp2_with fail
              go_meet
              exact ⟨rfl, Hend.out⟩
            case' rest => skip
            obtain ⟨rfl, hbq⟩ := hcut
            obtain ⟨wq, hwq⟩ : ∃ v, v = wc := ⟨_, rfl⟩
            subst hwq
            have HBq := Lib.hid (HBr.out.trans (hbq.mono hszr))
            have HBz := Lib.hid (HB.out.trans (HBq.out.mono HB.out.size))
            clear hbq c0r cxr cpr c0 cx' cp'
            go_wp2_with fail
            exact ⟨⟨i1 + 1 + 1, x + 1, by go_num, by omega, by omega, .inr ⟨x, by omega, Hx.out, rfl⟩, Hinc2.out, HBq.out⟩, by simp [intOf]; omega⟩
          · have hbad : incF 0 vs = false := by rw [← Hinc.out, hle, decide_eq_false (show ¬ (p + 1 ≤ x ∧ x ≤ 60000) from fun h => by omega), Bool.false_and]
            have Hv := Lib.hid (show R = false by rw [HR.out, hbad]; rfl)
            clear hbad hle
            go_upto_region 6 with fail
            have HI := Lib.hid (show ∀ W : World, Calls Try.prog 26 #[.int .i64 x, .int .i64 0, .int .i64 60000] W fun e w' => e = .returned (.bool true) ∧ w' = W from fun W => by have := In_any x 0 60000 W; rwa [Hin.out] at this)
            go_cut [47] from 23 to 46 (fun t47 wx => t47 = .bool true ∧ Below wr.heap.size wr wx)
            case first =>
              refine wp_region_web [0, 1, 2, 3, 4] 20 (by kernel_rfl) (by kernel_rfl) (fun _ _ d _ _ h => by cases d <;> exact h) (by kernel_rfl) (by kernel_rfl) rfl ?_
              simp only [pickOps, List.getElem?_cons_zero, List.getElem?_cons_succ]
              repeat (go_big_quiet_step (fail))
              refine wpQuiet_nil ?_
              refine web_start0 (fs := []) [.act 5 [], .plain [6, 7, 8, 9, 10, 11, 12, 13, 14, 15, 16, 17, 18, 19, 20, 21, 22, 23, 24]] _ _ (by kernel_rfl) (fun _ _ d _ _ h => by cases d <;> exact h) trivial (by decide) (by decide) (by kernel_rfl) (by kernel_rfl) (ext_drew (ext_refl _)) (by intro F hF; simp at hF) 20 (by decide) (by kernel_rfl) ?_
              intro v1 W hW _ o ho K hK
              cases ho
              have hbW : Below wr.heap.size wr W := ((Below.refl _ wr).drew).trans hW
              simp only [putS, List.foldl_nil, Act.put]
              have HI2 := Lib.hid (HI.out W)
              unfold StepP
              go_simp
              refine HI2.out.mono ?_
              rintro e W2 ⟨rfl, hw2⟩
              subst hw2
              refine hK _ _ (by intro F hF; simp at hF) (Below.refl _ _) ?_
              clear hK K HI2 hW
              intro v2 W3 hW3
              simp only [putS, List.foldl_nil, Act.put, pickOps, List.getElem?_cons_zero, List.getElem?_cons_succ]
              repeat (go_big_quiet_step (fail))
              refine wpQuiet_nil ?_
              refine ⟨by intro F hF; simp at hF, ?_⟩
              intro v3 W4 hW4 _
              have Hend := Lib.hid (hbW.trans ((hW3.trans (hW4.mono hW3.size)).mono hbW.size))
              simp only [Exit.then, putS, List.foldl_nil, Act.put]
              go_wp2_with fail
              go_meet
              exact ⟨rfl, Hend.out⟩
            case' rest => skip
            obtain ⟨rfl, hbq⟩ := hcut
            obtain ⟨wq, hwq⟩ : ∃ v, v = wc := ⟨_, rfl⟩
            subst hwq
            have HBq := Lib.hid (HBr.out.trans (hbq.mono hszr))
            have HBz := Lib.hid (HB.out.trans (HBq.out.mono HB.out.size))
            clear hbq c0r cxr cpr c0 cx' cp'
            go_wp2_with fail
            go_ret
            exact ⟨by rw [Hv.out]; rfl, HBz.out⟩
      · have Hin := Lib.hid (decide_eq_false hin)
        have hbad : incF 0 vs = false := by rw [← Hinc.out, decide_eq_false (show ¬ (least ≤ x ∧ x ≤ 60000) from fun h => hin ⟨by omega, h.2⟩), Bool.false_and]
        have Hv := Lib.hid (show R = false by rw [HR.out, hbad]; rfl)
        have c0r := cell_regrown c0
        have cxr := cell_regrown cx'
        clear hbad hin
        go_upto_region 6 with fail
        have HI := Lib.hid (show ∀ W : World, Calls Try.prog 26 #[.int .i64 x, .int .i64 0, .int .i64 60000] W fun e w' => e = .returned (.bool false) ∧ w' = W from fun W => by have := In_any x 0 60000 W; rwa [Hin.out] at this)
        go_cut [47] from 23 to 46 (fun t47 wx => t47 = .bool true ∧ Below wr.heap.size wr wx)
        case first =>
          refine wp_region_web [0, 1, 2, 3, 4] 20 (by kernel_rfl) (by kernel_rfl) (fun _ _ d _ _ h => by cases d <;> exact h) (by kernel_rfl) (by kernel_rfl) rfl ?_
          simp only [pickOps, List.getElem?_cons_zero, List.getElem?_cons_succ]
          repeat (go_big_quiet_step (fail))
          refine wpQuiet_nil ?_
          refine web_start0 (fs := []) [.act 5 [], .plain [6, 7, 8, 9, 10, 11, 12, 13, 14, 15, 16, 17, 18, 19, 20, 21, 22, 23, 24]] _ _ (by kernel_rfl) (fun _ _ d _ _ h => by cases d <;> exact h) trivial (by decide) (by decide) (by kernel_rfl) (by kernel_rfl) (ext_drew (ext_refl _)) (by intro F hF; simp at hF) 20 (by decide) (by kernel_rfl) ?_
          intro v1 W hW _ o ho K hK
          cases ho
          have hbW : Below wr.heap.size wr W := ((Below.refl _ wr).drew).trans hW
          simp only [putS, List.foldl_nil, Act.put]
          have HI2 := Lib.hid (HI.out W)
          unfold StepP
          go_simp
          refine HI2.out.mono ?_
          rintro e W2 ⟨rfl, hw2⟩
          subst hw2
          refine hK _ _ (by intro F hF; simp at hF) (Below.refl _ _) ?_
          clear hK K HI2 hW
          intro v2 W3 hW3
          simp only [putS, List.foldl_nil, Act.put, pickOps, List.getElem?_cons_zero, List.getElem?_cons_succ]
          repeat (go_big_quiet_step (fail))
          refine wpQuiet_nil ?_
          refine ⟨by intro F hF; simp at hF, ?_⟩
          intro v3 W4 hW4 _
          have Hend := Lib.hid (hbW.trans ((hW3.trans (hW4.mono hW3.size)).mono hbW.size))
          simp only [Exit.then, putS, List.foldl_nil, Act.put]
          go_wp2_with fail
          go_meet
          exact ⟨rfl, Hend.out⟩
        case' rest => skip
        obtain ⟨rfl, hbq⟩ := hcut
        obtain ⟨wq, hwq⟩ : ∃ v, v = wc := ⟨_, rfl⟩
        subst hwq
        have HBq := Lib.hid (HBr.out.trans (hbq.mono hszr))
        have HBz := Lib.hid (HB.out.trans (HBq.out.mono HB.out.size))
        clear hbq c0r cxr c0 cx'
        go_wp2_with fail
        go_ret
        exact ⟨by rw [Hv.out]; rfl, HBz.out⟩
    · rw [List.drop_of_length_le (by have := Hvl.out; omega), incF] at hinc
      have hR2 : R = ls.all (validL vs) := by rw [HR.out, ← hinc, Bool.true_and]
      replace HR := Lib.hid hR2
      have e1 : decide ((i : Int) < (n : Int)) = false := decide_eq_false (by omega)
      have e2 : decide (i < n) = false := decide_eq_false hlt
      obtain ⟨wo, hwo⟩ : ∃ v, v = wr := ⟨_, rfl⟩
      subst hwo
      clear hinc hR2 hlt
      go_wp2_with fail
      clear e1 e2 c0
      go_loopw [4] (fun v4 wr => ∃ k : Nat, v4 = .int .i64 (k : Int) ∧ k ≤ m ∧ (∀ (j : Nat) (l : Ln), j < k → ls[j]? = some l → validL vs l = true) ∧ Below w1.heap.size w1 wr) (fun v4 _ => m - (intOf v4).toNat)
      case atStart => exact ⟨0, rfl, by omega, fun j l h => absurd h (Nat.not_lt_zero _), HBr.out⟩
      case round =>
        clear HBr hszr
        obtain ⟨q, rfl, hq, hall, hB⟩ := hrel
        have Hall := Lib.hid hall
        have HBr := Lib.hid hB
        have hsz := hB.size
        have c1 : wr.cell? ⟨w.heap.size, 1, none⟩ = some (.slice B m d) := by rw [(HC.out.below hB HC.out.lt).cell]; rfl
        clear hall hB
        by_cases hqm : q < m
        · obtain ⟨b, off, l, eb, hlq, hcl⟩ := (Hl.out.below HBr.out).flat_ lnV_len (by omega) hqm
          subst eb
          have hgl : wr.rangeAt b (off + q * 8) (lnV l) := fun j v hv => by
            have := hcl j v hv
            rwa [← Nat.add_assoc] at this
          have Hgl := Lib.hid hgl
          have Hlq := Lib.hid hlq
          have hno : validL vs l = false → R = false := fun h => by
            rw [HR.out, List.all_eq_false]
            exact ⟨l, List.mem_of_getElem? hlq, by rw [h]; simp⟩
          have Hno := Lib.hid hno
          clear hgl hlq hcl hno
          have hn_ : Blk (wr.alloc (.cells (lnV ln0).toArray 53)) wr.heap.size 53 (lnV ln0).toArray := Blk.new _ _ _
          have Hn_ := Lib.hid hn_
          clear hn_
          go_upto_region 12 with (first | (refine wpList_load_mid rfl 53 (.tmp 58) rfl b (off + q * 8) rfl (lnV l) d53 Hgl.out hd53 hrow53 (by rw [lnV_len]; kernel_rfl) ?_) | (refine wpList_alloc0 rfl 53 rfl (lnV ln0).toArray _ i53 hi53 hz53 rfl ?_; simp only [Act.put, List.setIfInBounds_toArray, List.set_cons_succ, List.set_cons_zero]) | (refine wpList_store_row rfl 53 (.tmp 5) (.tmp 59) rfl wr.heap.size (lnV l).toArray rfl rfl 53 (lnV ln0).toArray Hn_.out (size53 _ rfl) rfl (ln_one _) ?_))
          obtain ⟨w3, hw3⟩ : ∃ v, v = (wr.alloc (.cells (lnV ln0).toArray 53)).setRow wr.heap.size (lnV l).toArray := ⟨_, rfl⟩
          have hb3 : Below wr.heap.size wr w3 := by rw [hw3]; exact Below.setRow ((Below.refl _ _).alloc (Nat.le_refl _) _) (Nat.le_refl _) _
          have hL3 : Blk w3 wr.heap.size 53 (lnV l).toArray := by rw [hw3]; exact setRow_heap _ _ _ _ _ _ Hn_.out
          rw [← hw3]
          clear hw3 Hn_ c1 Hgl
          obtain ⟨lb, hlb⟩ : ∃ v, v = wr.heap.size := ⟨_, rfl⟩
          rw [← hlb] at hL3 ⊢
          clear hlb
          have hB3 := HBr.out.trans (hb3.mono hsz)
          have keepL : ∀ W, Below w3.heap.size w3 W → Blk W lb 53 (lnV l).toArray ∧ Blk W w.heap.size 33 (grV A n c (some ⟨b, off, none⟩) m d).toArray ∧ Rd W 1 A n (vs.map intV) ∧ W.rangeAt lb 3 (ndV l.n) := fun W hW => by
            have h1 := hL3.below hW hL3.lt
            refine ⟨h1, (HC.out.below hB3 HC.out.lt).below hW (HC.out.below hB3 HC.out.lt).lt, (Hr.out.below hB3).below hW, fun j v hv => ?_⟩
            rw [h1.cell, List.getElem?_toArray]
            unfold lnV
            rw [List.getElem?_append_right (by simp)]
            simpa using hv
          have Keep := Lib.hid keepL
          have HB3 := Lib.hid hB3
          have a0 : w3.cell? ⟨lb, 0, none⟩ = some (.int .i64 l.f) := by rw [hL3.cell]; rfl
          have a1 : w3.cell? ⟨lb, 1, none⟩ = some (.int .i64 l.t) := by rw [hL3.cell]; rfl
          have bad : ∀ (_ : ¬ (l.f ∈ vs ∧ l.t ∈ vs ∧ l.f ≠ l.t ∧ 0 ≤ l.c ∧ l.c ≤ 1000000)), R = false := fun h => Hno.out (by unfold validL; rw [decide_eq_false h]; rfl)
          have Bad := Lib.hid bad
          have HBx := Lib.hid (HB.out.trans (hB3.mono HB.out.size))
          clear hb3 hL3 hB3 keepL bad HBr
          by_cases h3 : l.f = l.t
          · have Hv := Lib.hid (Bad.out (fun h => h.2.2.1 h3))
            rw [h3] at a0
            have hd : (l.t == l.t) = true := by simp
            clear h3
            go_wp2_with fail
            go_ret
            exact ⟨by rw [Hv.out]; rfl, HBx.out⟩
          have hd3 : (l.f == l.t) = false := by rw [beq_eq_false_iff_ne]; exact h3
          have H3 := Lib.hid h3
          clear h3
          obtain ⟨x1, hx1⟩ : ∃ x1, x1 = idxI vs l.f := ⟨_, rfl⟩
          obtain ⟨x2, hx2⟩ : ∃ x2, x2 = idxI vs l.t := ⟨_, rfl⟩
          have hn1 := idxI_neg vs l.f
          have hn2 := idxI_neg vs l.t
          rw [← hx1] at hn1
          rw [← hx2] at hn2
          have HN1 := Lib.hid hn1
          have HN2 := Lib.hid hn2
          have hf1 := Find_any A n c (some ⟨b, off, none⟩) m d vs l.f w3 (Keep.out w3 (Below.refl _ _)).2.2.1
          rw [← hx1] at hf1
          have Hf1 := Lib.hid hf1
          have HX2 := Lib.hid hx2
          clear hx1 hx2 hn1 hn2 hf1
          go_wp2_with (refine wpList_load_mid_g (by first | rfl | simp [Region.wanted, yielded]) 33 (.tmp 1) rfl w.heap.size 0 rfl (grV A n c (some ⟨b, off, none⟩) m d) d33 (Blk.range (Keep.out w3 (Below.refl _ _)).2.1) hd33 hrow33 (by rw [grV_len]; kernel_rfl) ?_)
          refine Hf1.out.mono ?_
          rintro e w4 ⟨rfl, hb4⟩
          have hk4 := Keep.out w4 hb4
          have a2 : w4.cell? ⟨lb, 1, none⟩ = some (.int .i64 l.t) := by rw [hk4.1.cell]; rfl
          have Hrg4 := Lib.hid (Blk.range hk4.2.1)
          have hf2 := Find_any A n c (some ⟨b, off, none⟩) m d vs l.t w4 hk4.2.2.1
          rw [← HX2.out] at hf2
          have Hf2 := Lib.hid hf2
          have Hb4 := Lib.hid hb4
          have HB4 := Lib.hid (HBx.out.trans (hb4.mono HBx.out.size))
          clear hk4 hf2 hb4 a0 a1 Hf1
          by_cases h1 : x1 < 0
          · have Hv := Lib.hid (Bad.out (fun h => (HN1.out.1 h1) h.1))
            go_wp2_with fail
            go_ret
            exact ⟨by rw [Hv.out]; rfl, HB4.out⟩
          have q1 : decide (x1 < 0) = false := decide_eq_false h1
          have H1 := Lib.hid h1
          go_wp2_with (refine wpList_load_mid_g (by first | rfl | simp [Region.wanted, yielded]; try omega) 33 (.tmp 1) rfl w.heap.size 0 rfl (grV A n c (some ⟨b, off, none⟩) m d) d33 Hrg4.out hd33 hrow33 (by rw [grV_len]; kernel_rfl) ?_)
          refine Hf2.out.mono ?_
          rintro e w5 ⟨rfl, hb5⟩
          have hk5 := Keep.out w5 (Hb4.out.trans (hb5.mono Hb4.out.size))
          have a3 : w5.cell? ⟨lb, 2, none⟩ = some (.int .i64 l.c) := by rw [hk5.1.cell]; rfl
          have Hrg5 := Lib.hid hk5.2.2.2
          have HB5 := Lib.hid (HB4.out.trans (hb5.mono HB4.out.size))
          have Hb5 := Lib.hid (Hb4.out.trans (hb5.mono Hb4.out.size))
          have hI := In_any l.c 0 1000000 w5
          clear hk5 hb5 a2 Hf2 Hb4 HB4 Hrg4
          by_cases h2 : x2 < 0
          · have Hv := Lib.hid (Bad.out (fun h => (HN2.out.1 h2) h.2.1))
            clear hI
            go_wp2_with fail
            go_ret
            exact ⟨by rw [Hv.out]; rfl, HB5.out⟩
          have q2 : decide (x2 < 0) = false := decide_eq_false h2
          have H2 := Lib.hid h2
          by_cases h4 : 0 ≤ l.c ∧ l.c ≤ 1000000
          rotate_left
          · have Hv := Lib.hid (Bad.out (fun h => h4 h.2.2.2))
            rw [decide_eq_false h4] at hI
            have HI := Lib.hid hI
            clear hI h4
            go_wp2_with fail
            refine HI.out.mono ?_
            rintro e w6 ⟨rfl, hw⟩
            subst hw
            clear HI
            go_wp2_with fail
            go_ret
            exact ⟨by rw [Hv.out]; rfl, HB5.out⟩
          rw [decide_eq_true h4] at hI
          have HI := Lib.hid hI
          have hval : validL vs l = rightB l.n := by
            unfold validL
            rw [decide_eq_true ⟨Decidable.byContradiction (fun h => by have g1 := H1.out; have g2 := HN1.out.2 h; omega), Decidable.byContradiction (fun h => by have g1 := H2.out; have g2 := HN2.out.2 h; omega), H3.out, h4.1, h4.2⟩, Bool.true_and]
          obtain ⟨S, hS⟩ : ∃ S, S = rightB l.n := ⟨_, rfl⟩
          have hri := RRight_any l.n w5
          rw [← hS] at hri hval
          have Hri := Lib.hid hri
          have Hval := Lib.hid hval
          clear hS hri hval hI h4
          go_wp2_with fail
          refine HI.out.mono ?_
          rintro e w6 ⟨rfl, hw⟩
          subst hw
          clear HI
          go_wp2_with (refine wpList_load_mid_g (by first | rfl | simp [Region.wanted, yielded]; try omega) 28 (.tmp 86) rfl lb 3 rfl (ndV l.n) d28 Hrg5.out hd28 hrow28 (by rw [ndV_len]; kernel_rfl) ?_)
          refine Hri.out.mono ?_
          rintro e w7 ⟨rfl, hb7⟩
          have HB7 := Lib.hid (HB5.out.trans (hb7.mono HB5.out.size))
          have Hb7 := Lib.hid (HB3.out.trans ((Hb5.out.trans (hb7.mono Hb5.out.size)).mono HB3.out.size))
          clear hb7 Hri HB5 Hb5 a3 Hrg5
          cases S with
          | false =>
            have Hv := Lib.hid (Hno.out Hval.out)
            go_wp2_with fail
            go_ret
            exact ⟨by rw [Hv.out]; rfl, HB7.out⟩
          | true =>
            have hall' : ∀ (j : Nat) (z : Ln), j < q + 1 → ls[j]? = some z → validL vs z = true := fun j z hj hz => by
              by_cases hjq : j = q
              · subst hjq; rw [Hlq.out] at hz; cases hz; exact Hval.out
              · exact Hall.out j z (by omega) hz
            have Hall' := Lib.hid hall'
            clear hall'
            go_wp2_with fail
            exact ⟨⟨q + 1, by go_num, by omega, Hall'.out, Hb7.out⟩, by simp [intOf]; omega⟩
        · have hv : R = true := by
            rw [HR.out, List.all_eq_true]
            intro l hlm
            obtain ⟨j, hj, rfl⟩ := List.mem_iff_getElem.1 hlm
            exact Hall.out j _ (by have := Hll.out; omega) (List.getElem?_eq_getElem hj)
          have Hv := Lib.hid hv
          have HBx := Lib.hid (HB.out.trans (HBr.out.mono HB.out.size))
          have e1 : decide ((q : Int) < (m : Int)) = false := decide_eq_false (by omega)
          have e2 : decide (q < m) = false := decide_eq_false hqm
          clear hv hqm
          go_wp2_with fail
          go_ret
          exact ⟨by rw [Hv.out]; rfl, HBx.out⟩
end Go.Proofs.Ytgelchbbknckcaa
