/- Package graph: Valid. -/
import Derived.Test.YtgelchbbknckcaaG9
namespace Go.Proofs.Ytgelchbbknckcaa
open Go.RowKit Go.Sort

/-- A link: from, to, its cost, its need. -/
structure Ln where
  (f t c : Int) (n : Nd)
def lnV (l : Ln) : List Value := [.int .i64 l.f, .int .i64 l.t, .int .i64 l.c] ++ ndV l.n
theorem lnV_len (l : Ln) : (lnV l).length = 8 := rfl
def ln0 : Ln := ⟨0, 0, 0, nd0⟩
theorem info53 : (Try.prog.info? 53).map (fun i => (i.zero, i.size, i.bytes)) = some (some (.agg (lnV ln0).toArray), 8, 64) := by kernel_rfl
theorem size53 (cs : Array Value) (h : cs.size = 8) : (Try.prog.info? 53).map (·.size) = some cs.size := by rw [h]; kernel_rfl
theorem und53 : ∃ d, Try.prog.underlying 53 = some d ∧ d.isRow = true := by
  obtain ⟨d, h1, h2⟩ := Option.map_eq_some_iff.1 (show (Try.prog.underlying 53).map (·.isRow) = some true by kernel_rfl)
  exact ⟨d, h1, h2⟩
theorem und33 : ∃ d, Try.prog.underlying 33 = some d ∧ d.isRow = true := by
  obtain ⟨d, h1, h2⟩ := Option.map_eq_some_iff.1 (show (Try.prog.underlying 33).map (·.isRow) = some true by kernel_rfl)
  exact ⟨d, h1, h2⟩
theorem ln_one (l : Ln) : (lnV l).toArray.all (·.oneCell') = true := all_oneCell_toArray fun v hv => by
  simp only [lnV, ndV, Nd.list, List.map_cons, List.map_nil, List.cons_append, List.nil_append, List.mem_cons, List.not_mem_nil, or_false] at hv
  rcases hv with rfl | rfl | rfl | rfl | rfl | rfl | rfl | rfl <;> rfl
/-- Versions increase, from a least one on. -/
def incF (least : Int) : List Int → Bool
  | [] => true
  | v :: r => decide (least ≤ v ∧ v ≤ 60000) && incF (v + 1) r
def validL (vs : List Int) (l : Ln) : Bool := decide (l.f ∈ vs ∧ l.t ∈ vs ∧ l.f ≠ l.t ∧ 0 ≤ l.c ∧ l.c ≤ 1000000) && rightB l.n
def validB (vs : List Int) (ls : List Ln) : Bool := decide (vs.length ≤ 16 ∧ ls.length ≤ 64) && incF 0 vs && ls.all (validL vs)
theorem incF_lt : ∀ (vs : List Int) (least : Int), incF least vs = true → (∀ (j : Nat) (a : Int), vs[j]? = some a → least ≤ a) ∧ ∀ (i j : Nat) (a b : Int), i < j → vs[i]? = some a → vs[j]? = some b → a < b
  | [], _, _ => ⟨fun j a h => by simp at h, fun i j a b _ h => by simp at h⟩
  | v :: r, least, h => by
    rw [incF, Bool.and_eq_true, decide_eq_true_eq] at h
    obtain ⟨h1, h2⟩ := incF_lt r (v + 1) h.2
    refine ⟨fun j a ha => ?_, fun i j a b hij ha hb => ?_⟩
    · cases j with
      | zero => simp at ha; omega
      | succ j => rw [List.getElem?_cons_succ] at ha; have := h1 j a ha; omega
    · cases j with
      | zero => omega
      | succ j =>
        rw [List.getElem?_cons_succ] at hb
        cases i with
        | zero => simp at ha; have := h1 j b hb; omega
        | succ i => rw [List.getElem?_cons_succ] at ha; exact h2 i j a b (by omega) ha hb

set_option maxRecDepth 100000 in
set_option maxHeartbeats 2000000 in
theorem Valid_any (A : Option Addr) (n c : Nat) (B : Option Addr) (m d : Nat) (vs : List Int) (ls : List Ln) (w : World) (hr : Rd w 1 A n (vs.map intV)) (hl : Rd w 8 B m (ls.flatMap lnV)) :
    Calls Try.prog 22 #[.agg (grV A n c B m d).toArray] w fun e w' => e = .returned (.bool (validB vs ls)) ∧ Below w.heap.size w w' := by
  obtain ⟨i53, hi53, hz53, hs53, hy53⟩ := info_parts info53
  obtain ⟨d53, hd53, hrow53⟩ := und53
  obtain ⟨d33, hd33, hrow33⟩ := und33
  obtain ⟨d28, hd28, hrow28⟩ := und28
  have hvl := hr.len1
  have hnl := hr.le
  have hml := hl.le
  have hll := hl.lenf lnV_len (by omega)
  obtain ⟨R, hR⟩ : ∃ R, R = validB vs ls := ⟨_, rfl⟩
  rw [← hR]
  unfold validB at hR
  rw [hvl, hll] at hR
  have HR := Lib.hid hR
  have Hr := Lib.hid hr
  have Hl := Lib.hid hl
  have Hvl := Lib.hid hvl
  have Hll := Lib.hid hll
  clear hR hr hl hvl hll
  go_enter Try.func22, Try.ntmps22
  go_upto_region 1 with fail
  obtain ⟨w1, hw1⟩ : ∃ v, v = w.alloc (.cells (grV A n c B m d).toArray 33) := ⟨_, rfl⟩
  have hB : Below w.heap.size w w1 := by rw [hw1]; exact (Below.refl _ _).alloc (Nat.le_refl _) _
  have hC : Blk w1 w.heap.size 33 (grV A n c B m d).toArray := by rw [hw1]; exact Blk.new _ _ _
  rw [← hw1]
  clear hw1
  have c0 : w1.cell? ⟨w.heap.size, 0, none⟩ = some (.slice A n c) := by rw [hC.cell]; rfl
  have c1 : w1.cell? ⟨w.heap.size, 1, none⟩ = some (.slice B m d) := by rw [hC.cell]; rfl
  replace Hr := Lib.hid (Hr.out.below hB)
  replace Hl := Lib.hid (Hl.out.below hB)
  have HC := Lib.hid hC
  have HB := Lib.hid hB
  clear hC hB
  by_cases hn16 : n ≤ 16
  rotate_left
  · have Hv := Lib.hid (show R = false by rw [HR.out, decide_eq_false (by omega)]; rfl)
    have d1 : decide ((16 : Int) < (n : Int)) = true := decide_eq_true (by omega)
    have d2 : decide (16 < n) = true := decide_eq_true (by omega)
    clear hn16
    go_wp2_with fail
    go_ret
    exact ⟨by rw [Hv.out]; rfl, HB.out⟩
  by_cases hm64 : m ≤ 64
  rotate_left
  · have Hv := Lib.hid (show R = false by rw [HR.out, decide_eq_false (by omega)]; rfl)
    have d1 : decide ((64 : Int) < (m : Int)) = true := decide_eq_true (by omega)
    have d2 : decide (64 < m) = true := decide_eq_true (by omega)
    have d3 : decide ((16 : Int) < (n : Int)) = false := decide_eq_false (by omega)
    have d4 : decide (16 < n) = false := decide_eq_false (by omega)
    clear hm64
    go_wp2_with fail
    go_ret
    exact ⟨by rw [Hv.out]; rfl, HB.out⟩
  have hR1 : R = (incF 0 vs && ls.all (validL vs)) := by rw [HR.out, decide_eq_true ⟨hn16, hm64⟩, Bool.true_and]
  replace HR := Lib.hid hR1
  clear hR1
  have d1 : decide ((64 : Int) < (m : Int)) = false := decide_eq_false (by omega)
  have d2 : decide (64 < m) = false := decide_eq_false (by omega)
  have d3 : decide ((16 : Int) < (n : Int)) = false := decide_eq_false (by omega)
  have d4 : decide (16 < n) = false := decide_eq_false (by omega)
  go_wp2_with fail
  clear d1 d2 d3 d4
  go_loopw [3, 25] (fun v3 v25 wr => ∃ (k : Nat) (least : Int), v25 = .int .i64 (k : Int) ∧ v3 = .int .i64 least ∧ k ≤ n ∧ 0 ≤ least ∧ least ≤ 60001 ∧ incF least (vs.drop k) = incF 0 vs ∧ wr = w1) (fun _ v25 _ => n - (intOf v25).toNat)
  case atStart => exact ⟨0, 0, rfl, rfl, by omega, by omega, by omega, rfl, rfl⟩
  case round =>
    obtain ⟨k, least, rfl, rfl, hk, hl0, hl1, hinc, rfl⟩ := hrel
    by_cases hlt : k < n
    · obtain ⟨b, off, x, rfl, hx, cx⟩ := Hr.out.at_ hlt
      have cx' : wr.cell? ⟨b, off + k, none⟩ = some (.int .i64 x) := cx
      obtain ⟨e1, e2⟩ := List.getElem?_eq_some_iff.1 hx
      rw [List.drop_eq_getElem_cons e1, e2, incF] at hinc
      by_cases h1 : least ≤ x
      · by_cases h2 : x ≤ 60000
        · rw [decide_eq_true ⟨h1, h2⟩, Bool.true_and] at hinc
          have Hinc := Lib.hid hinc
          clear hinc e1 e2 hx cx
          go_wp2_with fail
          exact ⟨⟨k + 1, x + 1, by go_num, by go_num, by omega, by omega, by omega, Hinc.out, trivial⟩, by simp [intOf]; omega⟩
        · rw [decide_eq_false (fun h => h2 h.2), Bool.false_and] at hinc
          have Hv := Lib.hid (show R = false by rw [HR.out, ← hinc]; rfl)
          clear hinc e1 e2 hx cx
          go_wp2_with fail
          go_ret
          exact ⟨by rw [Hv.out]; rfl, HB.out⟩
      · rw [decide_eq_false (fun h => h1 h.1), Bool.false_and] at hinc
        have Hv := Lib.hid (show R = false by rw [HR.out, ← hinc]; rfl)
        clear hinc e1 e2 hx cx
        go_wp2_with fail
        go_ret
        exact ⟨by rw [Hv.out]; rfl, HB.out⟩
    · rw [List.drop_of_length_le (by have := Hvl.out; omega), incF] at hinc
      have hR2 : R = ls.all (validL vs) := by rw [HR.out, ← hinc, Bool.true_and]
      have Hs := Lib.hid (incF_lt vs 0 hinc.symm).2
      replace HR := Lib.hid hR2
      have e1 : decide ((k : Int) < (n : Int)) = false := decide_eq_false (by omega)
      have e2 : decide (k < n) = false := decide_eq_false hlt
      obtain ⟨wo, hwo⟩ : ∃ v, v = wr := ⟨_, rfl⟩
      subst hwo
      clear hinc hR2 hlt
      go_wp2_with fail
      clear e1 e2
      go_loopw [42] (fun v42 wr => ∃ k : Nat, v42 = .int .i64 (k : Int) ∧ k ≤ m ∧ (∀ (j : Nat) (l : Ln), j < k → ls[j]? = some l → validL vs l = true) ∧ Below wo.heap.size wo wr) (fun v42 _ => m - (intOf v42).toNat)
      case atStart => exact ⟨0, rfl, by omega, fun j l h => absurd h (Nat.not_lt_zero _), Below.refl _ _⟩
      case round =>
        obtain ⟨q, rfl, hq, hall, hB⟩ := hrel
        have Hall := Lib.hid hall
        have HBr := Lib.hid hB
        have hsz := hB.size
        clear hall hB
        by_cases hqm : q < m
        · obtain ⟨b, off, l, rfl, hlq, hcl⟩ := (Hl.out.below HBr.out).flat_ lnV_len (by omega) hqm
          have hgl : wr.rangeAt b (off + q * 8) (lnV l) := fun j v hv => by
            have := hcl j v hv
            rwa [← Nat.add_assoc] at this
          have Hgl := Lib.hid hgl
          have Hlq := Lib.hid hlq
          have hno : validL vs l = false → R = false := fun h => by
            rw [HR.out, List.all_eq_false]
            exact ⟨l, List.mem_of_getElem? hlq, by rw [h]; simp⟩
          have Hno := Lib.hid hno
          clear hgl hlq hcl hno
          have hn_ : Blk (wr.alloc (.cells (lnV ln0).toArray 53)) wr.heap.size 53 (lnV ln0).toArray := Blk.new _ _ _
          have Hn_ := Lib.hid hn_
          clear hn_
          go_upto_region 14 with (first | (refine wpList_load_mid rfl 53 (.tmp 44) rfl b (off + q * 8) rfl (lnV l) d53 Hgl.out hd53 hrow53 (by rw [lnV_len]; kernel_rfl) ?_) | (refine wpList_alloc0 rfl 53 rfl (lnV ln0).toArray _ i53 hi53 hz53 rfl ?_; simp only [Act.put, List.setIfInBounds_toArray, List.set_cons_succ, List.set_cons_zero]) | (refine wpList_store_row rfl 53 (.tmp 7) (.tmp 45) rfl wr.heap.size (lnV l).toArray rfl rfl 53 (lnV ln0).toArray Hn_.out (size53 _ rfl) rfl (ln_one _) ?_))
          obtain ⟨w3, hw3⟩ : ∃ v, v = (wr.alloc (.cells (lnV ln0).toArray 53)).setRow wr.heap.size (lnV l).toArray := ⟨_, rfl⟩
          have hb3 : Below wr.heap.size wr w3 := by rw [hw3]; exact Below.setRow ((Below.refl _ _).alloc (Nat.le_refl _) _) (Nat.le_refl _) _
          have hL3 : Blk w3 wr.heap.size 53 (lnV l).toArray := by rw [hw3]; exact setRow_heap _ _ _ _ _ _ Hn_.out
          rw [← hw3]
          clear hw3 Hn_
          obtain ⟨lb, hlb⟩ : ∃ v, v = wr.heap.size := ⟨_, rfl⟩
          rw [← hlb] at hL3 ⊢
          clear hlb
          have hB3 := HBr.out.trans (hb3.mono hsz)
          have k0 : w3.cell? ⟨lb, 0, none⟩ = some (.int .i64 l.f) := by rw [hL3.cell]; rfl
          have hC3 := HC.out.below hB3 HC.out.lt
          have Hf := Lib.hid (find_any A n c (some ⟨b, off, none⟩) m d vs l.f w3 (Hr.out.below hB3) (by omega) Hs.out)
          have HL3 := Lib.hid hL3
          have HC3 := Lib.hid hC3
          have HB3 := Lib.hid hB3
          clear hb3 hL3 hC3 hB3 HBr Hgl
          go_upto_region 15 with (refine wpList_load_mid rfl 33 (.tmp 1) rfl w.heap.size 0 rfl (grV A n c (some ⟨b, off, none⟩) m d) d33 (Blk.range HC3.out) hd33 hrow33 (by rw [grV_len]; kernel_rfl) ?_)
          refine Hf.out.mono ?_
          rintro e w4 ⟨⟨k1, rfl, _⟩, hb4⟩
          have hL4 := HL3.out.below hb4 HL3.out.lt
          have hB4 := HB3.out.trans (hb4.mono HB3.out.size)
          have k1' : w4.cell? ⟨lb, 1, none⟩ = some (.int .i64 l.t) := by rw [hL4.cell]; rfl
          have Hf := Lib.hid (find_any A n c (some ⟨b, off, none⟩) m d vs l.t w4 (Hr.out.below hB4) (by omega) Hs.out)
          have HL4 := Lib.hid hL4
          have HC4 := Lib.hid (HC.out.below hB4 HC.out.lt)
          have HB4 := Lib.hid hB4
          clear hb4 hL4 hB4 HL3 HC3 HB3 k0
          go_upto_region 16 with (refine wpList_load_mid rfl 33 (.tmp 1) rfl w.heap.size 0 rfl (grV A n c (some ⟨b, off, none⟩) m d) d33 (Blk.range HC4.out) hd33 hrow33 (by rw [grV_len]; kernel_rfl) ?_)
          refine Hf.out.mono ?_
          rintro e w5 ⟨⟨k2, rfl, _⟩, hb5⟩
          have hL5 := HL4.out.below hb5 HL4.out.lt
          have c50 : w5.cell? ⟨lb, 0, none⟩ = some (.int .i64 l.f) := by rw [hL5.cell]; rfl
          have c51 : w5.cell? ⟨lb, 1, none⟩ = some (.int .i64 l.t) := by rw [hL5.cell]; rfl
          have c52 : w5.cell? ⟨lb, 2, none⟩ = some (.int .i64 l.c) := by rw [hL5.cell]; rfl
          have hrg : w5.rangeAt lb 3 (ndV l.n) := fun j v hv => by
            rw [hL5.cell, List.getElem?_toArray]
            unfold lnV
            rw [List.getElem?_append_right (by simp)]
            simpa using hv
          have Hrg := Lib.hid hrg
          have HB5 := Lib.hid (HB4.out.trans (hb5.mono HB4.out.size))
          have HBx := Lib.hid (HB.out.trans (HB5.out.mono HB.out.size))
          clear hb5 hL5 HL4 HC4 HB4 k1' Hf hrg
          have bad : ∀ (_ : ¬ (l.f ∈ vs ∧ l.t ∈ vs ∧ l.f ≠ l.t ∧ 0 ≤ l.c ∧ l.c ≤ 1000000)), R = false := fun h => Hno.out (by unfold validL; rw [decide_eq_false h]; rfl)
          have Bad := Lib.hid bad
          clear bad
          by_cases h1 : l.f ∈ vs
          rotate_left
          · have Hv := Lib.hid (Bad.out (fun h => h1 h.1))
            rw [decide_eq_false h1]
            clear h1
            go_wp2_with fail
            go_ret
            exact ⟨by rw [Hv.out]; rfl, HBx.out⟩
          by_cases h2 : l.t ∈ vs
          rotate_left
          · have Hv := Lib.hid (Bad.out (fun h => h2 h.2.1))
            rw [decide_eq_true h1, decide_eq_false h2]
            clear h1 h2
            go_wp2_with fail
            go_ret
            exact ⟨by rw [Hv.out]; rfl, HBx.out⟩
          rw [decide_eq_true h1, decide_eq_true h2]
          by_cases h3 : l.f = l.t
          · have Hv := Lib.hid (Bad.out (fun h => h.2.2.1 h3))
            rw [h3] at c50
            have hd : (l.t == l.t) = true := by simp
            clear h1 h2 h3
            go_wp2_with fail
            go_ret
            exact ⟨by rw [Hv.out]; rfl, HBx.out⟩
          have hd3 : (l.f == l.t) = false := by rw [beq_eq_false_iff_ne]; exact h3
          by_cases h4 : 0 ≤ l.c
          rotate_left
          · have Hv := Lib.hid (Bad.out (fun h => h4 h.2.2.2.1))
            clear h1 h2 h3
            go_wp2_with fail
            go_ret
            exact ⟨by rw [Hv.out]; rfl, HBx.out⟩
          by_cases h5 : l.c ≤ 1000000
          rotate_left
          · have Hv := Lib.hid (Bad.out (fun h => h5 h.2.2.2.2))
            clear h1 h2 h3
            go_wp2_with fail
            go_ret
            exact ⟨by rw [Hv.out]; rfl, HBx.out⟩
          have hval : validL vs l = rightB l.n := by unfold validL; rw [decide_eq_true ⟨h1, h2, h3, h4, h5⟩, Bool.true_and]
          obtain ⟨S, hS⟩ : ∃ S, S = rightB l.n := ⟨_, rfl⟩
          have hri := right_any l.n w5
          rw [← hS] at hri hval
          have Hri := Lib.hid hri
          have Hval := Lib.hid hval
          clear hS hri hval h1 h2 h3
          go_wp2_with (refine wpList_load_mid_g (by first | rfl | simp [Region.wanted, yielded, h4, h5]) 28 (.tmp 84) rfl lb 3 rfl (ndV l.n) d28 Hrg.out hd28 hrow28 (by rw [ndV_len]; kernel_rfl) ?_)
          refine Hri.out.mono ?_
          rintro e w6 ⟨rfl, hb6⟩
          have HB6 := Lib.hid (HB5.out.trans (hb6.mono HB5.out.size))
          have HBy := Lib.hid (HBx.out.trans (hb6.mono HBx.out.size))
          clear hb6 Hri HB5 HBx c50 c51 c52
          cases S with
          | false =>
            have Hv := Lib.hid (Hno.out Hval.out)
            go_wp2_with fail
            go_ret
            exact ⟨by rw [Hv.out]; rfl, HBy.out⟩
          | true =>
            have hall' : ∀ (j : Nat) (z : Ln), j < q + 1 → ls[j]? = some z → validL vs z = true := fun j z hj hz => by
              by_cases hjq : j = q
              · subst hjq; rw [Hlq.out] at hz; cases hz; exact Hval.out
              · exact Hall.out j z (by omega) hz
            have Hall' := Lib.hid hall'
            clear hall'
            go_wp2_with fail
            exact ⟨⟨q + 1, by go_num, by omega, Hall'.out, HB6.out⟩, by simp [intOf]; omega⟩
        · have hv : R = true := by
            rw [HR.out, List.all_eq_true]
            intro l hlm
            obtain ⟨j, hj, rfl⟩ := List.mem_iff_getElem.1 hlm
            exact Hall.out j _ (by have := Hll.out; omega) (List.getElem?_eq_getElem hj)
          have Hv := Lib.hid hv
          have HBx := Lib.hid (HB.out.trans (HBr.out.mono HB.out.size))
          have e1 : decide ((q : Int) < (m : Int)) = false := decide_eq_false (by omega)
          have e2 : decide (q < m) = false := decide_eq_false hqm
          clear hv hqm
          go_wp2_with fail
          go_ret
          exact ⟨by rw [Hv.out]; rfl, HBx.out⟩
end Go.Proofs.Ytgelchbbknckcaa
