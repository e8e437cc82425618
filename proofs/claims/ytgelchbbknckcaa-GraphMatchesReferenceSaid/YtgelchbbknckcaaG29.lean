/- Package graph's reference: which way is cheaper. -/
import Derived.Test.YtgelchbbknckcaaG19
namespace Go.Proofs.Ytgelchbbknckcaa
open Go.RowKit Go.Sort

/-- A way of the reference as it lies in memory. -/
def rwV (x : Wm) : List Value := [.slice x.A x.n x.c, .int .i64 (x.w.1 : Int), .bool x.f]
theorem rwV_len (x : Wm) : (rwV x).length = 3 := rfl
theorem info74 : (Try.prog.info? 74).map (fun i => (i.zero, i.size, i.bytes)) = some (some (.agg (rwV wm0).toArray), 3, 40) := by kernel_rfl
theorem size74 (cs : Array Value) (h : cs.size = 3) : (Try.prog.info? 74).map (·.size) = some cs.size := by rw [h]; kernel_rfl
theorem rw_one (x : Wm) : (rwV x).toArray.all (·.oneCell') = true := all_oneCell_toArray fun v hv => by
  simp only [rwV, List.mem_cons, List.not_mem_nil, or_false] at hv
  rcases hv with rfl | rfl | rfl <;> rfl
theorem und74 : ∃ d, Try.prog.underlying 74 = some d ∧ d.isRow = true := by
  obtain ⟨d, h1, h2⟩ := Option.map_eq_some_iff.1 (show (Try.prog.underlying 74).map (·.isRow) = some true by kernel_rfl)
  exact ⟨d, h1, h2⟩
/-- The first is cheaper. -/
def chB : Option Gr.Wy → Option Gr.Wy → Bool
  | none, _ => false
  | some _, none => true
  | some a, some b => decide (Gr.cmpW a b < 0)
theorem cmpL_drop {a b : List Nat} {i x y : Nat} (ha : a[i]? = some x) (hb : b[i]? = some y) : Gr.cmpL (a.drop i) (b.drop i) = if x < y then -1 else if y < x then 1 else Gr.cmpL (a.drop (i + 1)) (b.drop (i + 1)) := by
  obtain ⟨h1, e1⟩ := List.getElem?_eq_some_iff.1 ha
  obtain ⟨h2, e2⟩ := List.getElem?_eq_some_iff.1 hb
  rw [List.drop_eq_getElem_cons h1, List.drop_eq_getElem_cons h2, e1, e2]
  rfl
set_option maxRecDepth 100000 in
set_option maxHeartbeats 2000000 in
theorem Cheaper_any (x y : Wm) (w : World) (hx : Wok w x) (hy : Wok w y) :
    Calls Try.prog 41 #[.agg (rwV x).toArray, .agg (rwV y).toArray] w fun e w' => e = .returned (.bool (chB (wyO x) (wyO y))) ∧ Below w.heap.size w w' := by
  obtain ⟨A, n, c, ⟨k, xs⟩, f, p⟩ := x
  obtain ⟨B, m, d, ⟨l, ys⟩, g, q⟩ := y
  have hx' : Rd w 1 A n ((castL xs).map intV) := hx
  have hy' : Rd w 1 B m ((castL ys).map intV) := hy
  have hxl : xs.length = n := by have := hx'.len1; simpa [castL] using this
  have hyl : ys.length = m := by have := hy'.len1; simpa [castL] using this
  have hnl := hx'.le
  have hml := hy'.le
  obtain ⟨R, hR⟩ : ∃ R, R = chB (wyO ⟨A, n, c, ⟨k, xs⟩, f, p⟩) (wyO ⟨B, m, d, ⟨l, ys⟩, g, q⟩) := ⟨_, rfl⟩
  rw [← hR]
  have HR := Lib.hid hR
  have Hxl := Lib.hid hxl
  have Hyl := Lib.hid hyl
  clear hR hxl hyl hx hy
  unfold rwV
  go_enter Try.func41, Try.ntmps41
  go_upto_region 1 with fail
  try simp only [World.size_alloc]
  obtain ⟨w1, hw1⟩ : ∃ v, v = (w.alloc (.cells #[.slice A n c, .int .i64 (k : Int), .bool f] 74)).alloc (.cells #[.slice B m d, .int .i64 (l : Int), .bool g] 74) := ⟨_, rfl⟩
  have hB : Below w.heap.size w w1 := by rw [hw1]; exact ((Below.refl _ _).alloc (Nat.le_refl _) _).alloc (by simp) _
  have hC : Blk w1 w.heap.size 74 #[.slice A n c, .int .i64 (k : Int), .bool f] := by rw [hw1]; exact (Blk.new _ _ _).alloc _
  have hD : Blk w1 (w.heap.size + 1) 74 #[.slice B m d, .int .i64 (l : Int), .bool g] := by
    have := Blk.new (w.alloc (.cells #[.slice A n c, .int .i64 (k : Int), .bool f] 74)) 74 #[.slice B m d, .int .i64 (l : Int), .bool g]
    rw [World.size_alloc] at this
    rw [hw1]; exact this
  rw [← hw1]
  clear hw1
  have a0 : w1.cell? ⟨w.heap.size, 0, none⟩ = some (.slice A n c) := by rw [hC.cell]; rfl
  have b0 : w1.cell? ⟨w.heap.size + 1, 0, none⟩ = some (.slice B m d) := by rw [hD.cell]; rfl
  have a1 : w1.cell? ⟨w.heap.size, 1, none⟩ = some (.int .i64 (k : Int)) := by rw [hC.cell]; rfl
  have b1 : w1.cell? ⟨w.heap.size + 1, 1, none⟩ = some (.int .i64 (l : Int)) := by rw [hD.cell]; rfl
  have a2 : w1.cell? ⟨w.heap.size, 2, none⟩ = some (.bool f) := by rw [hC.cell]; rfl
  have b2 : w1.cell? ⟨w.heap.size + 1, 2, none⟩ = some (.bool g) := by rw [hD.cell]; rfl
  have HB := Lib.hid hB
  have Hx := Lib.hid (hx'.below hB)
  have Hy := Lib.hid (hy'.below hB)
  clear hC hD hB hx' hy'
  cases f with
  | false =>
    have Hr := Lib.hid (show R = false by rw [HR.out]; rfl)
    go_wp2_with fail
    go_ret
    exact ⟨by rw [Hr.out]; rfl, HB.out⟩
  | true =>
  cases g with
  | false =>
    have Hr := Lib.hid (show R = true by rw [HR.out]; rfl)
    go_wp2_with fail
    go_ret
    exact ⟨by rw [Hr.out]; rfl, HB.out⟩
  | true =>
  have hm : R = decide (Gr.cmpW (k, xs) (l, ys) < 0) := HR.out
  by_cases hkl : k = l
  rotate_left
  · have z1 : ((k : Int) != (l : Int)) = true := by rw [bne_iff_ne]; omega
    have hr : R = decide ((k : Int) < (l : Int)) := by
      rw [hm, decide_eq_decide]
      rcases Gr.cmpW_cases (k, xs) (l, ys) with h | h | ⟨h, _⟩
      · simp only at h; omega
      · simp only at h; omega
      · exact absurd h hkl
    have Hr := Lib.hid hr
    have z2 : (k == l) = false := by rw [beq_eq_false_iff_ne]; exact hkl
    clear hr hm hkl
    go_wp2_with fail
    go_ret
    -- MARK1
    exact ⟨by rw [Hr.out]; simp, HB.out⟩
  subst hkl
  have z1 : ((k : Int) != (k : Int)) = false := by simp
  by_cases hnm : n = m
  rotate_left
  · have hr : R = decide ((n : Int) < (m : Int)) := by
      rw [hm, decide_eq_decide]
      have e1 := Hxl.out
      have e2 := Hyl.out
      rcases Gr.cmpW_cases (k, xs) (k, ys) with h | h | ⟨_, h | h | ⟨h, _⟩⟩ <;> simp only at h <;> omega
    have Hr := Lib.hid hr
    have z2 : (n == m) = false := by rw [beq_eq_false_iff_ne]; exact hnm
    have z3 : ((n : Int) != (m : Int)) = true := by rw [bne_iff_ne]; omega
    clear hr hm hnm
    go_wp2_with fail
    go_ret
    exact ⟨by rw [Hr.out]; simp, HB.out⟩
  subst hnm
  have hr : R = decide (Gr.cmpL xs ys < 0) := by
    rw [hm, decide_eq_decide]
    have e1 := Hxl.out
    have e2 := Hyl.out
    rcases Gr.cmpW_cases (k, xs) (k, ys) with h | h | ⟨_, h | h | ⟨_, h⟩⟩ <;> simp only at h <;> omega
  have Hr := Lib.hid hr
  clear hr hm
  go_wp2_with fail
  clear z1
  go_loopw [5] (fun v5 wr => ∃ i : Nat, v5 = .int .i64 (i : Int) ∧ i ≤ n ∧ R = decide (Gr.cmpL (xs.drop i) (ys.drop i) < 0) ∧ Ext w1 wr) (fun v5 _ => n - (intOf v5).toNat)
  case atStart => exact ⟨0, rfl, by omega, Hr.out, ext_refl _⟩
  case round =>
    obtain ⟨i, rfl, hi, hrest, hE⟩ := hrel
    have HE := Lib.hid hE
    have Hrest := Lib.hid hrest
    have c0 : wr.cell? ⟨w.heap.size, 0, none⟩ = some (.slice A n c) := ((ext_below hE).cell (World.block_lt_of_cell? _ _ a0)).trans a0
    have e0 : wr.cell? ⟨w.heap.size + 1, 0, none⟩ = some (.slice B n d) := ((ext_below hE).cell (World.block_lt_of_cell? _ _ b0)).trans b0
    clear hE hrest
    by_cases li : i < n
    rotate_left
    · obtain rfl : n = i := by omega
      have hr0 : R = false := by
        rw [Hrest.out, List.drop_of_length_le (by rw [Hxl.out]; exact Nat.le_refl _), List.drop_of_length_le (by rw [Hyl.out]; exact Nat.le_refl _)]; rfl
      have Hr0 := Lib.hid hr0
      have d1 : decide ((n : Int) < (n : Int)) = false := decide_eq_false (by omega)
      clear hr0 li
      go_wp2_with fail
      go_ret
      exact ⟨by rw [Hr0.out]; rfl, HB.out.trans ((ext_below HE.out).mono HB.out.size)⟩
    have d1 : decide ((i : Int) < (n : Int)) = true := decide_eq_true (by omega)
    obtain ⟨x, hxi⟩ : ∃ x, xs[i]? = some x := ⟨_, List.getElem?_eq_getElem (by rw [Hxl.out]; exact li)⟩
    obtain ⟨y, hyi⟩ : ∃ y, ys[i]? = some y := ⟨_, List.getElem?_eq_getElem (by rw [Hyl.out]; exact li)⟩
    have hstep := cmpL_drop hxi hyi
    obtain ⟨ab, ao, x', ea, hx1, cx⟩ := (Hx.out.below (ext_below HE.out)).at_ li
    obtain ⟨bb, bo, y', eb, hy1, cy⟩ := (Hy.out.below (ext_below HE.out)).at_ li
    subst ea
    subst eb
    have ex : x' = (x : Int) := by
      unfold castL at hx1
      rw [List.getElem?_map, hxi] at hx1
      simpa using hx1.symm
    have ey : y' = (y : Int) := by
      unfold castL at hy1
      rw [List.getElem?_map, hyi] at hy1
      simpa using hy1.symm
    subst ex
    subst ey
    have cx' : wr.cell? ⟨ab, ao + i, none⟩ = some (.int .i64 (x : Int)) := cx
    have cy' : wr.cell? ⟨bb, bo + i, none⟩ = some (.int .i64 (y : Int)) := cy
    rw [hstep] at Hrest
    clear hstep hxi hyi hx1 hy1 cx cy
    by_cases hxy : x = y
    · have z2 : (x == y) = true := by simpa using hxy
      have z3 : ((x : Int) != (y : Int)) = false := by simp [hxy]
      have hn2 : R = decide (Gr.cmpL (xs.drop (i + 1)) (ys.drop (i + 1)) < 0) := by rw [Hrest.out, if_neg (by omega), if_neg (by omega)]
      have Hn2 := Lib.hid hn2
      clear hn2 hxy
      go_upto_region 10 with fail
      go_quiet (fail)
      -- MARK2
      go_wp2_with fail
      exact ⟨⟨i + 1, by go_num, by omega, Hn2.out, ext_of (below_drewN (ext_below HE.out) _)⟩, by simp [intOf]; omega⟩
    · have z2 : (x == y) = false := by rw [beq_eq_false_iff_ne]; exact hxy
      have z3 : ((x : Int) != (y : Int)) = true := by rw [bne_iff_ne]; omega
      have hn2 : R = decide ((x : Int) < (y : Int)) := by
        rw [Hrest.out, decide_eq_decide]
        by_cases h : x < y
        · rw [if_pos h]; omega
        · rw [if_neg h, if_pos (by omega)]; omega
      have Hn2 := Lib.hid hn2
      clear hn2 hxy
      go_upto_region 10 with fail
      go_quiet (fail)
      go_upto_region 11 with fail
      go_quiet (fail)
      -- MARK3
      go_wp2_with fail
      go_ret
      exact ⟨by rw [Hn2.out]; simp, below_drewN (below_drewN (HB.out.trans ((ext_below HE.out).mono HB.out.size)) _) _⟩
end Go.Proofs.Ytgelchbbknckcaa
