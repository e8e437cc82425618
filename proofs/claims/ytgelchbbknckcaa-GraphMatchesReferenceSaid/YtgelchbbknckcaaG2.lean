/- Package graph and its reference: needs, numbers, the search for a version. -/
import Derived.Test.YtgelchbbknckcaaG1
import Derived.Test.YtgelchbbknckcaaGT
namespace Go.Proofs.Ytgelchbbknckcaa
open Go.RowKit Go.Sort

/-- A need: its five numbers. -/
structure Nd where
  (s u r e o : Int)
def Nd.list (n : Nd) : List Int := [n.s, n.u, n.r, n.e, n.o]
def ndV (n : Nd) : List Value := n.list.map fun i => .int .i64 i
def fitsB (n m : Nd) : Bool := decide (n.s ≤ m.s ∧ n.u ≤ m.u ∧ n.r ≤ m.r ∧ n.e ≤ m.e ∧ n.o ≤ m.o)
def nd0 : Nd := ⟨0, 0, 0, 0, 0⟩
theorem info77 : (Try.prog.info? 77).map (fun i => (i.zero, i.size, i.bytes)) = some (some (.agg (ndV nd0).toArray), 5, 40) := by kernel_rfl
theorem info28 : (Try.prog.info? 28).map (fun i => (i.zero, i.size, i.bytes)) = some (some (.agg (ndV nd0).toArray), 5, 40) := by kernel_rfl
theorem size77 (cs : Array Value) (h : cs.size = 5) : (Try.prog.info? 77).map (·.size) = some cs.size := by rw [h]; kernel_rfl
theorem und77 : Try.prog.underlying 77 = some (.array 5 3) := by kernel_rfl
theorem und28 : ∃ d, Try.prog.underlying 28 = some d ∧ d.isRow = true := by
  obtain ⟨d, h1, h2⟩ := Option.map_eq_some_iff.1 (show (Try.prog.underlying 28).map (·.isRow) = some true by kernel_rfl)
  exact ⟨d, h1, h2⟩
theorem nd_one (n : Nd) : (ndV n).toArray.all (·.oneCell') = true := all_oneCell_toArray fun v hv => by
  obtain ⟨i, _, rfl⟩ := List.mem_map.1 hv
  rfl
theorem ndV_len (n : Nd) : (ndV n).length = 5 := rfl
theorem built77 (n : Nd) : Try.prog.built 77 [(0, .int .i64 n.s), (1, .int .i64 n.u), (2, .int .i64 n.r), (3, .int .i64 n.e), (4, .int .i64 n.o)] = some (ndV n).toArray := by kernel_rfl
set_option maxRecDepth 100000 in
theorem fields_any (n : Nd) (w : World) : Calls Try.prog 31 #[.agg (ndV n).toArray] w fun e w' => e = .returned (.agg (ndV n).toArray) ∧ Below w.heap.size w w' := by
  obtain ⟨i77, hi77, hz77, hs77, hy77⟩ := info_parts info77
  go_enter Try.func31, Try.ntmps31
  go_upto_region 1 with (first | (refine wpList_alloc0 rfl 77 rfl (ndV nd0).toArray _ i77 hi77 hz77 rfl ?_; simp only [Act.put, List.setIfInBounds_toArray, List.set_cons_succ, List.set_cons_zero, World.size_alloc]))
  obtain ⟨w1, hw1⟩ : ∃ v, v = (w.alloc (.cells (ndV n).toArray 28)).alloc (.cells (ndV nd0).toArray 77) := ⟨_, rfl⟩
  have hB : Below w.heap.size w w1 := by rw [hw1]; exact ((Below.refl _ _).alloc (Nat.le_refl _) _).alloc (by simp) _
  have hC : Blk w1 w.heap.size 28 (ndV n).toArray := by rw [hw1]; exact (Blk.new _ _ _).alloc _
  have hO : Blk w1 (w.heap.size + 1) 77 (ndV nd0).toArray := by
    have := Blk.new (w.alloc (.cells (ndV n).toArray 28)) 77 (ndV nd0).toArray
    rw [World.size_alloc] at this
    rw [hw1]; exact this
  rw [← hw1]
  clear hw1
  have c0 : w1.cell? ⟨w.heap.size, 0, none⟩ = some (.int .i64 n.s) := by rw [hC.cell]; rfl
  have c1 : w1.cell? ⟨w.heap.size, 1, none⟩ = some (.int .i64 n.u) := by rw [hC.cell]; rfl
  have c2 : w1.cell? ⟨w.heap.size, 2, none⟩ = some (.int .i64 n.r) := by rw [hC.cell]; rfl
  have c3 : w1.cell? ⟨w.heap.size, 3, none⟩ = some (.int .i64 n.e) := by rw [hC.cell]; rfl
  have c4 : w1.cell? ⟨w.heap.size, 4, none⟩ = some (.int .i64 n.o) := by rw [hC.cell]; rfl
  have HO := Lib.hid hO
  have HB := Lib.hid hB
  clear hO hB hC
  go_wp2_with (first | (refine wpList_buildN rfl 77 _ rfl [(0, .int .i64 n.s), (1, .int .i64 n.u), (2, .int .i64 n.r), (3, .int .i64 n.e), (4, .int .i64 n.o)] rfl _ (built77 n) ?_) | (refine wpList_store_row rfl 77 (.tmp 2) (.tmp 13) rfl (w.heap.size + 1) (ndV n).toArray rfl rfl 77 (ndV nd0).toArray HO.out (size77 _ rfl) rfl (nd_one _) ?_))
  refine bodyPost_ret (results_cell_row rfl _ _ (w.heap.size + 1) 77 (ndV n).toArray (0, 0) _ rfl (setRow_heap _ _ _ _ _ _ HO.out) und77 rfl (size77 _ rfl)) rfl ⟨rfl, Below.setRow HB.out (by omega) _⟩
set_option maxRecDepth 100000 in
theorem Rfields_any (n : Nd) (w : World) : Calls Try.prog 32 #[.agg (ndV n).toArray] w fun e w' => e = .returned (.agg (ndV n).toArray) ∧ Below w.heap.size w w' := by
  obtain ⟨i77, hi77, hz77, hs77, hy77⟩ := info_parts info77
  go_enter Try.func32, Try.ntmps32
  go_upto_region 1 with (first | (refine wpList_alloc0 rfl 77 rfl (ndV nd0).toArray _ i77 hi77 hz77 rfl ?_; simp only [Act.put, List.setIfInBounds_toArray, List.set_cons_succ, List.set_cons_zero, World.size_alloc]))
  obtain ⟨w1, hw1⟩ : ∃ v, v = (w.alloc (.cells (ndV n).toArray 28)).alloc (.cells (ndV nd0).toArray 77) := ⟨_, rfl⟩
  have hB : Below w.heap.size w w1 := by rw [hw1]; exact ((Below.refl _ _).alloc (Nat.le_refl _) _).alloc (by simp) _
  have hC : Blk w1 w.heap.size 28 (ndV n).toArray := by rw [hw1]; exact (Blk.new _ _ _).alloc _
  have hO : Blk w1 (w.heap.size + 1) 77 (ndV nd0).toArray := by
    have := Blk.new (w.alloc (.cells (ndV n).toArray 28)) 77 (ndV nd0).toArray
    rw [World.size_alloc] at this
    rw [hw1]; exact this
  rw [← hw1]
  clear hw1
  have c0 : w1.cell? ⟨w.heap.size, 0, none⟩ = some (.int .i64 n.s) := by rw [hC.cell]; rfl
  have c1 : w1.cell? ⟨w.heap.size, 1, none⟩ = some (.int .i64 n.u) := by rw [hC.cell]; rfl
  have c2 : w1.cell? ⟨w.heap.size, 2, none⟩ = some (.int .i64 n.r) := by rw [hC.cell]; rfl
  have c3 : w1.cell? ⟨w.heap.size, 3, none⟩ = some (.int .i64 n.e) := by rw [hC.cell]; rfl
  have c4 : w1.cell? ⟨w.heap.size, 4, none⟩ = some (.int .i64 n.o) := by rw [hC.cell]; rfl
  have HO := Lib.hid hO
  have HB := Lib.hid hB
  clear hO hB hC
  go_wp2_with (first | (refine wpList_buildN rfl 77 _ rfl [(0, .int .i64 n.s), (1, .int .i64 n.u), (2, .int .i64 n.r), (3, .int .i64 n.e), (4, .int .i64 n.o)] rfl _ (built77 n) ?_) | (refine wpList_store_row rfl 77 (.tmp 2) (.tmp 13) rfl (w.heap.size + 1) (ndV n).toArray rfl rfl 77 (ndV nd0).toArray HO.out (size77 _ rfl) rfl (nd_one _) ?_))
  refine bodyPost_ret (results_cell_row rfl _ _ (w.heap.size + 1) 77 (ndV n).toArray (0, 0) _ rfl (setRow_heap _ _ _ _ _ _ HO.out) und77 rfl (size77 _ rfl)) rfl ⟨rfl, Below.setRow HB.out (by omega) _⟩
theorem isNaNs_any (x : Int) (w : World) : Calls Try.prog 48 #[.int .i64 x] w fun e w' => e = .returned (.bool false) ∧ w' = w := by
  go_enter Try.func48, Try.ntmps48
  have h1 : (x != x) = false := by simp
  go_wp2_with fail
  go_ret
  exact ⟨rfl, rfl⟩
theorem isNaNc_any (x : Int) (w : World) : Calls Try.prog 49 #[.int .i64 x] w fun e w' => e = .returned (.bool false) ∧ w' = w := by
  go_enter Try.func49, Try.ntmps49
  have h1 : (x != x) = false := by simp
  go_wp2_with fail
  go_ret
  exact ⟨rfl, rfl⟩
set_option maxRecDepth 100000 in
theorem Less_any (x y : Int) (w : World) : Calls Try.prog 47 #[.int .i64 x, .int .i64 y] w fun e w' => e = .returned (.bool (decide (x < y))) ∧ w' = w := by
  go_enter Try.func47, Try.ntmps47
  have h := isNaNc_any x w
  go_wp2_with fail
  refine h.mono ?_
  rintro e w' ⟨rfl, hw⟩
  subst hw
  go_wp2_with fail
  go_ret
  exact ⟨rfl, rfl⟩
set_option maxRecDepth 100000 in
theorem CmpN_any (x y : Int) (w : World) : Calls Try.prog 44 #[.int .i64 x, .int .i64 y] w fun e w' => e = .returned (.int .i64 (if x < y then -1 else if y < x then 1 else 0)) ∧ w' = w := by
  go_enter Try.func44, Try.ntmps44
  have h := isNaNc_any x w
  have h2 := isNaNc_any y w
  go_wp2_with fail
  refine h.mono ?_
  rintro e w' ⟨rfl, hw⟩
  subst hw
  go_wp2_with fail
  refine h2.mono ?_
  rintro e w' ⟨rfl, hw⟩
  subst hw
  clear h h2
  by_cases h1 : x < y
  · go_wp2_with fail
    go_ret
    exact ⟨rfl, rfl⟩
  · by_cases h2 : y < x
    · go_wp2_with fail
      go_ret
      exact ⟨rfl, rfl⟩
    · go_wp2_with fail
      go_ret
      exact ⟨rfl, rfl⟩
theorem In_any (n low high : Int) (w : World) : Calls Try.prog 26 #[.int .i64 n, .int .i64 low, .int .i64 high] w fun e w' => e = .returned (.bool (decide (low ≤ n ∧ n ≤ high))) ∧ w' = w := by
  go_enter Try.func26, Try.ntmps26
  by_cases h1 : low ≤ n
  · go_wp2_with fail
    go_ret
    exact ⟨by simp [h1], rfl⟩
  · go_wp2_with fail
    go_ret
    exact ⟨by simp; omega, rfl⟩

set_option maxRecDepth 100000 in
set_option maxHeartbeats 1000000 in
/-- The search in an increasing list. -/
theorem BSearch_any (A : Option Addr) (n c : Nat) (vs : List Int) (x : Int) (w : World) (hr : Rd w 1 A n (vs.map intV)) (hn : n ≤ 1000000) (hs : ∀ (i j : Nat) (a b : Int), i < j → vs[i]? = some a → vs[j]? = some b → a < b) :
    Calls Try.prog 42 #[.slice A n c, .int .i64 x] w fun e w' => ∃ k : Nat, e = .returned (.tuple #[.int .i64 (k : Int), .bool (decide (x ∈ vs))]) ∧ (x ∈ vs → vs[k]? = some x) ∧ w' = w := by
  have hl := hr.len1
  have Hr := Lib.hid hr
  have Hs := Lib.hid hs
  have Hl := Lib.hid hl
  clear hr hs hl
  go_enter Try.func42, Try.ntmps42
  go_wp2_with fail
  go_loopw [7, 8] (fun v7 v8 wr => ∃ i j : Nat, v7 = .int .i64 (i : Int) ∧ v8 = .int .i64 (j : Int) ∧ i ≤ j ∧ j ≤ n ∧ (∀ k a, k < i → vs[k]? = some a → a < x) ∧ (∀ k a, j ≤ k → vs[k]? = some a → x ≤ a) ∧ wr = w) (fun v7 v8 _ => (intOf v8).toNat - (intOf v7).toNat)
  case atStart => exact ⟨0, n, rfl, rfl, by omega, Nat.le_refl _, fun k a h => absurd h (Nat.not_lt_zero _), fun k a h e => by have := (List.getElem?_eq_some_iff.1 e).1; have := Hl.out; omega, rfl⟩
  case round =>
    obtain ⟨i, j, rfl, rfl, hij, hjn, hlo, hhi, rfl⟩ := hrel
    have Hlo := Lib.hid hlo
    have Hhi := Lib.hid hhi
    clear hlo hhi
    by_cases hlt : i < j
    · obtain ⟨h, hh⟩ : ∃ h, h = (i + j) / 2 := ⟨_, rfl⟩
      have hhn : h < n := by omega
      have hh1 : i ≤ h := by omega
      have hh2 : h < j := by omega
      obtain ⟨b, off, y, rfl, hy, cy⟩ := Hr.out.at_ hhn
      have cy' : wr.cell? ⟨b, off + h, none⟩ = some (.int .i64 y) := cy
      have Hh := Lib.hid hh
      have Hy := Lib.hid hy
      clear hh hy cy
      go_upto_region 5 with fail
      rw [show ((i : Int) + (j : Int)) / 2 = (h : Int) from by rw [Hh.out]; omega]
      have hL := Less_any y x wr
      go_wp2_with fail
      refine hL.mono ?_
      rintro e w' ⟨rfl, hw⟩
      subst hw
      clear hL cy'
      by_cases hyx : y < x
      · rw [decide_eq_true hyx]
        have hlo' : ∀ (k : Nat) (a : Int), k < h + 1 → vs[k]? = some a → a < x := fun k a hk e => by
          by_cases hkh : k = h
          · subst hkh; rw [Hy.out] at e; cases e; exact hyx
          · have := Hs.out k h a y (by omega) e Hy.out; omega
        have Hlo' := Lib.hid hlo'
        clear hlo' hyx
        go_wp2_with fail
        exact ⟨⟨h + 1, j, by go_num, rfl, by omega, hjn, Hlo'.out, Hhi.out, trivial⟩, by simp [intOf]; omega⟩
      · rw [decide_eq_false hyx]
        have hhi' : ∀ (k : Nat) (a : Int), h ≤ k → vs[k]? = some a → x ≤ a := fun k a hk e => by
          by_cases hkh : h = k
          · subst hkh; rw [Hy.out] at e; cases e; omega
          · have := Hs.out h k y a (by omega) Hy.out e; omega
        have Hhi' := Lib.hid hhi'
        clear hhi' hyx
        go_wp2_with fail
        exact ⟨⟨i, h, rfl, rfl, by omega, by omega, Hlo.out, Hhi'.out, trivial⟩, by simp [intOf]; omega⟩
    · obtain rfl : i = j := by omega
      by_cases hin : i < n
      · obtain ⟨b, off, y, rfl, hy, cy⟩ := Hr.out.at_ hin
        have cy' : wr.cell? ⟨b, off + i, none⟩ = some (.int .i64 y) := cy
        by_cases hyx : y = x
        · subst hyx
          have hmem : y ∈ vs := List.mem_of_getElem? hy
          have Hm := Lib.hid (decide_eq_true hmem)
          have Hy := Lib.hid hy
          clear hmem hy cy hlt
          go_wp2_with fail
          go_ret2
          exact ⟨i, by rw [Hm.out]; rfl, fun _ => Hy.out, rfl⟩
        · have hnm : x ∉ vs := fun hm => by
            obtain ⟨k, hk, e⟩ := List.mem_iff_getElem.1 hm
            have e2 : vs[k]? = some x := by rw [List.getElem?_eq_getElem hk, e]
            by_cases hki : k < i
            · have := Hlo.out k x hki e2; omega
            · by_cases hke : k = i
              · subst hke; rw [hy] at e2; cases e2; exact hyx rfl
              · have h1 := Hs.out i k y x (by omega) hy e2
                have h2 := Hhi.out i y (Nat.le_refl _) hy
                omega
          have Hm := Lib.hid (And.intro hnm (decide_eq_false hnm))
          have hd : (y == x) = false := by rw [beq_eq_false_iff_ne]; exact hyx
          have hI := isNaNs_any y wr
          clear hnm hy cy hlt hyx
          go_wp2_with fail
          refine hI.mono ?_
          rintro e w' ⟨rfl, hw⟩
          subst hw
          clear hI
          go_wp2_with fail
          go_ret2
          exact ⟨i, by rw [Hm.out.2]; rfl, fun h => absurd h Hm.out.1, rfl⟩
      · have hnm : x ∉ vs := fun hm => by
          obtain ⟨k, hk, e⟩ := List.mem_iff_getElem.1 hm
          have e2 : vs[k]? = some x := by rw [List.getElem?_eq_getElem hk, e]
          have := Hlo.out k x (by have := Hl.out; omega) e2
          omega
        have Hm := Lib.hid (And.intro hnm (decide_eq_false hnm))
        have hd : decide ((i : Int) < (n : Int)) = false := decide_eq_false (by omega)
        have hd2 : decide (i < n) = false := decide_eq_false hin
        clear hnm hlt hin
        go_wp2_with fail
        go_ret2
        exact ⟨i, by rw [Hm.out.2]; rfl, fun h => absurd h Hm.out.1, rfl⟩

/-- A graph as it is handed over: two slices. -/
def grV (A : Option Addr) (n c : Nat) (B : Option Addr) (m d : Nat) : List Value := [.slice A n c, .slice B m d]
theorem grV_len (A : Option Addr) (n c : Nat) (B : Option Addr) (m d : Nat) : (grV A n c B m d).length = 2 := rfl
set_option maxRecDepth 100000 in
theorem find_any (A : Option Addr) (n c : Nat) (B : Option Addr) (m d : Nat) (vs : List Int) (x : Int) (w : World) (hr : Rd w 1 A n (vs.map intV)) (hn : n ≤ 1000000) (hs : ∀ (i j : Nat) (a b : Int), i < j → vs[i]? = some a → vs[j]? = some b → a < b) :
    Calls Try.prog 33 #[.agg (grV A n c B m d).toArray, .int .i64 x] w fun e w' => (∃ k : Nat, e = .returned (.tuple #[.int .i64 (k : Int), .bool (decide (x ∈ vs))]) ∧ (x ∈ vs → vs[k]? = some x)) ∧ Below w.heap.size w w' := by
  go_enter Try.func33, Try.ntmps33
  go_upto_region 1 with fail
  obtain ⟨w1, hw1⟩ : ∃ v, v = w.alloc (.cells (grV A n c B m d).toArray 33) := ⟨_, rfl⟩
  have hB : Below w.heap.size w w1 := by rw [hw1]; exact (Below.refl _ _).alloc (Nat.le_refl _) _
  have hC : Blk w1 w.heap.size 33 (grV A n c B m d).toArray := by rw [hw1]; exact Blk.new _ _ _
  rw [← hw1]
  clear hw1
  have c0 : w1.cell? ⟨w.heap.size, 0, none⟩ = some (.slice A n c) := by rw [hC.cell]; rfl
  have HS := Lib.hid (BSearch_any A n c vs x w1 (hr.below hB) hn hs)
  have HB := Lib.hid hB
  clear hr hs hB hC
  go_wp2_with fail
  refine HS.out.mono ?_
  rintro e w' ⟨k, rfl, hk, hw⟩
  subst hw
  have Hk := Lib.hid hk
  clear hk HS c0
  go_wp2_with fail
  go_ret2
  exact ⟨⟨k, rfl, Hk.out⟩, HB.out⟩
/-- The place of a number in a list, or -1. -/
def idxI (vs : List Int) (x : Int) : Int := match vs.findIdx? (fun a => a == x) with
  | some i => (i : Int)
  | none => -1
theorem idxI_hit {vs : List Int} {x : Int} {i : Nat} (h : vs[i]? = some x) (hn : ∀ j, j < i → vs[j]? ≠ some x) : idxI vs x = (i : Int) := by
  have hf : vs.findIdx? (fun a => a == x) = some i := by
    rw [List.findIdx?_eq_some_iff_getElem]
    obtain ⟨hl, he⟩ := List.getElem?_eq_some_iff.1 h
    refine ⟨hl, by simp [he], fun j hj => ?_⟩
    have := hn j hj
    rw [List.getElem?_eq_getElem (by omega)] at this
    simpa using this
  unfold idxI
  rw [hf]
theorem idxI_miss {vs : List Int} {x : Int} (hn : ∀ j : Nat, vs[j]? ≠ some x) : idxI vs x = -1 := by
  have hf : vs.findIdx? (fun a => a == x) = none := by
    rw [List.findIdx?_eq_none_iff]
    intro a ha
    obtain ⟨k, hk, rfl⟩ := List.mem_iff_getElem.1 ha
    have := hn k
    rw [List.getElem?_eq_getElem hk] at this
    simpa using this
  unfold idxI
  rw [hf]
set_option maxRecDepth 100000 in
set_option maxHeartbeats 1000000 in
theorem Find_any (A : Option Addr) (n c : Nat) (B : Option Addr) (m d : Nat) (vs : List Int) (x : Int) (w : World) (hr : Rd w 1 A n (vs.map intV)) :
    Calls Try.prog 25 #[.agg (grV A n c B m d).toArray, .int .i64 x] w fun e w' => e = .returned (.int .i64 (idxI vs x)) ∧ Below w.heap.size w w' := by
  have hl := hr.len1
  have hle := hr.le
  obtain ⟨R, hR⟩ : ∃ R, R = idxI vs x := ⟨_, rfl⟩
  rw [← hR]
  have HR := Lib.hid hR
  clear hR
  go_enter Try.func25, Try.ntmps25
  go_upto_region 1 with fail
  obtain ⟨w1, hw1⟩ : ∃ v, v = w.alloc (.cells (grV A n c B m d).toArray 33) := ⟨_, rfl⟩
  have hB : Below w.heap.size w w1 := by rw [hw1]; exact (Below.refl _ _).alloc (Nat.le_refl _) _
  have hC : Blk w1 w.heap.size 33 (grV A n c B m d).toArray := by rw [hw1]; exact Blk.new _ _ _
  rw [← hw1]
  clear hw1
  have c0 : w1.cell? ⟨w.heap.size, 0, none⟩ = some (.slice A n c) := by rw [hC.cell]; rfl
  have Hr := Lib.hid (hr.below hB)
  have HB := Lib.hid hB
  have Hl := Lib.hid hl
  clear hr hB hC hl
  go_wp2_with fail
  go_loopw [5] (fun v5 wr => ∃ i : Nat, v5 = .int .i64 (i : Int) ∧ i ≤ n ∧ (∀ j, j < i → vs[j]? ≠ some x) ∧ wr = w1) (fun v5 _ => n - (intOf v5).toNat)
  case atStart => exact ⟨0, rfl, by omega, fun j h => absurd h (Nat.not_lt_zero _), rfl⟩
  case round =>
    obtain ⟨i, rfl, hi, hno, rfl⟩ := hrel
    have Hno := Lib.hid hno
    clear hno
    by_cases hlt : i < n
    · obtain ⟨b, off, y, rfl, hy, cy⟩ := Hr.out.at_ hlt
      have cy' : wr.cell? ⟨b, off + i, none⟩ = some (.int .i64 y) := cy
      by_cases hyx : y = x
      · subst hyx
        have hv : R = (i : Int) := by
          rw [HR.out]; exact idxI_hit hy Hno.out
        have Hv := Lib.hid hv
        clear hv hy cy
        go_wp2_with fail
        go_ret
        exact ⟨by rw [Hv.out]; rfl, HB.out⟩
      · have hd : (y == x) = false := by rw [beq_eq_false_iff_ne]; exact hyx
        have hn' : ∀ j, j < i + 1 → vs[j]? ≠ some x := fun j hj e => by
          by_cases hji : j = i
          · subst hji; rw [hy] at e; cases e; exact hyx rfl
          · exact Hno.out j (by omega) e
        have Hn' := Lib.hid hn'
        clear hn' hy cy hyx
        go_wp2_with fail
        exact ⟨⟨i + 1, by go_num, by omega, Hn'.out, trivial⟩, by simp [intOf]; omega⟩
    · have hv : R = -1 := by
        rw [HR.out]; exact idxI_miss fun k e => Hno.out k (by have := (List.getElem?_eq_some_iff.1 e).1; have := Hl.out; omega) e
      have Hv := Lib.hid hv
      have hd : decide ((i : Int) < (n : Int)) = false := decide_eq_false (by omega)
      have hd2 : decide (i < n) = false := decide_eq_false hlt
      clear hv
      go_wp2_with fail
      go_ret
      exact ⟨by rw [Hv.out]; rfl, HB.out⟩
end Go.Proofs.Ytgelchbbknckcaa
