/- Package fetch and its reference: proper, Want, lists compared. -/
import Derived.Test.YthlecmmngldodaaDoorH9
import Derived.Laws.BytesArg
namespace Go.Proofs.YthlecmmngldodaaDoor
open Go.RowKit Go.Sort

/-- A transfer as it is handed over. -/
def fetchC (tr : Sum32) (A : Option Addr) (n c : Nat) : List Value := sumC tr ++ [.slice A n c]
theorem fetchC_len (tr : Sum32) (A : Option Addr) (n c : Nat) : (fetchC tr A n c).length = 33 := by simp [fetchC, sumC_len]
theorem fetchC_have (tr : Sum32) (A : Option Addr) (n c : Nat) : (fetchC tr A n c).toArray[32]? = some (.slice A n c) := by
  rw [List.getElem?_toArray]
  unfold fetchC
  rw [List.getElem?_append_right (by rw [sumC_len]; omega), sumC_len]
  rfl
def properB (l : Nat) (i n : Int) : Bool := if i = n - 1 then decide (1 ≤ l ∧ l ≤ 1024) else decide (l = 1024)

set_option maxHeartbeats 400000 in
theorem proper_any (A : Option Addr) (l c : Nat) (i n : Int) (hn : -1000000 ≤ n ∧ n ≤ 1000000) (hl : l ≤ 9223372036854775807) (w : World) :
    Calls Tryd.prog 41 #[.slice A l c, .int .i64 i, .int .i64 n] w fun e w' => e = .returned (.bool (properB l i n)) ∧ w' = w := by
  go_enter Tryd.func41, Tryd.ntmps41
  by_cases hi : i = n - 1
  · have hii : (i == n - 1) = true := by rw [beq_iff_eq]; exact hi
    by_cases h1 : 1 ≤ l
    · by_cases h2 : l ≤ 1024
      · have Hv := Lib.hid (show properB l i n = true by unfold properB; rw [if_pos hi, decide_eq_true ⟨h1, h2⟩])
        clear hi
        go_wp2
        go_ret
        exact ⟨by rw [Hv.out]; first | rfl | exact ret_bool (decide_eq_true (by omega)) | exact ret_bool (decide_eq_false (by omega)), rfl⟩
      · have Hv := Lib.hid (show properB l i n = false by unfold properB; rw [if_pos hi, decide_eq_false (fun h => h2 h.2)])
        clear hi
        go_wp2
        go_ret
        exact ⟨by rw [Hv.out]; first | rfl | exact ret_bool (decide_eq_true (by omega)) | exact ret_bool (decide_eq_false (by omega)), rfl⟩
    · have Hv := Lib.hid (show properB l i n = false by unfold properB; rw [if_pos hi, decide_eq_false (fun h => h1 h.1)])
      obtain rfl : l = 0 := by omega
      clear hi
      go_wp2
      go_ret
      exact ⟨by rw [Hv.out]; first | rfl | exact ret_bool (decide_eq_true (by omega)) | exact ret_bool (decide_eq_false (by omega)), rfl⟩
  · have hii : (i == n - 1) = false := by rw [beq_eq_false_iff_ne]; exact hi
    by_cases h0 : l = 1024
    · subst h0
      have Hv := Lib.hid (show properB 1024 i n = true by unfold properB; rw [if_neg hi]; rfl)
      clear hi
      go_wp2
      go_ret
      exact ⟨by rw [Hv.out]; first | rfl | exact ret_bool (decide_eq_true (by omega)) | exact ret_bool (decide_eq_false (by omega)), rfl⟩
    · have Hv := Lib.hid (show properB l i n = false by unfold properB; rw [if_neg hi, decide_eq_false h0])
      have hle : ((l : Int) == 1024) = false := by rw [beq_eq_false_iff_ne]; omega
      clear hi
      by_cases h1 : 1024 ≤ l
      · have h2 : ¬ l ≤ 1024 := by omega
        go_wp2
        go_ret
        exact ⟨by rw [Hv.out]; first | rfl | exact ret_bool (decide_eq_true (by omega)) | exact ret_bool (decide_eq_false (by omega)), rfl⟩
      · go_wp2
        go_ret
        exact ⟨by rw [Hv.out]; first | rfl | exact ret_bool (decide_eq_true (by omega)) | exact ret_bool (decide_eq_false (by omega)), rfl⟩
set_option maxHeartbeats 400000 in
theorem RProper_any (A : Option Addr) (l c : Nat) (i n : Int) (hn : -1000000 ≤ n ∧ n ≤ 1000000) (hl : l ≤ 9223372036854775807) (w : World) :
    Calls Tryd.prog 29 #[.slice A l c, .int .i64 i, .int .i64 n] w fun e w' => e = .returned (.bool (properB l i n)) ∧ w' = w := by
  go_enter Tryd.func29, Tryd.ntmps29
  by_cases hi : i = n - 1
  · have hii : (i == n - 1) = true := by rw [beq_iff_eq]; exact hi
    by_cases h1 : 1 ≤ l
    · by_cases h2 : l ≤ 1024
      · have Hv := Lib.hid (show properB l i n = true by unfold properB; rw [if_pos hi, decide_eq_true ⟨h1, h2⟩])
        clear hi
        go_wp2
        go_ret
        exact ⟨by rw [Hv.out]; first | rfl | exact ret_bool (decide_eq_true (by omega)) | exact ret_bool (decide_eq_false (by omega)), rfl⟩
      · have Hv := Lib.hid (show properB l i n = false by unfold properB; rw [if_pos hi, decide_eq_false (fun h => h2 h.2)])
        clear hi
        go_wp2
        go_ret
        exact ⟨by rw [Hv.out]; first | rfl | exact ret_bool (decide_eq_true (by omega)) | exact ret_bool (decide_eq_false (by omega)), rfl⟩
    · have Hv := Lib.hid (show properB l i n = false by unfold properB; rw [if_pos hi, decide_eq_false (fun h => h1 h.1)])
      obtain rfl : l = 0 := by omega
      clear hi
      go_wp2
      go_ret
      exact ⟨by rw [Hv.out]; first | rfl | exact ret_bool (decide_eq_true (by omega)) | exact ret_bool (decide_eq_false (by omega)), rfl⟩
  · have hii : (i == n - 1) = false := by rw [beq_eq_false_iff_ne]; exact hi
    by_cases h0 : l = 1024
    · subst h0
      have Hv := Lib.hid (show properB 1024 i n = true by unfold properB; rw [if_neg hi]; rfl)
      clear hi
      go_wp2
      go_ret
      exact ⟨by rw [Hv.out]; first | rfl | exact ret_bool (decide_eq_true (by omega)) | exact ret_bool (decide_eq_false (by omega)), rfl⟩
    · have Hv := Lib.hid (show properB l i n = false by unfold properB; rw [if_neg hi, decide_eq_false h0])
      have hle : ((l : Int) == 1024) = false := by rw [beq_eq_false_iff_ne]; omega
      clear hi
      by_cases h1 : 1024 ≤ l
      · have h2 : ¬ l ≤ 1024 := by omega
        go_wp2
        go_ret
        exact ⟨by rw [Hv.out]; first | rfl | exact ret_bool (decide_eq_true (by omega)) | exact ret_bool (decide_eq_false (by omega)), rfl⟩
      · go_wp2
        go_ret
        exact ⟨by rw [Hv.out]; first | rfl | exact ret_bool (decide_eq_true (by omega)) | exact ret_bool (decide_eq_false (by omega)), rfl⟩

/-- The places that are empty, below k. -/
def wantF (h : List (List UInt8)) (k : Nat) : List Nat := (List.range k).filter fun i => (h.getD i []).isEmpty
def wantL (h : List (List UInt8)) : List Nat := wantF h h.length
theorem wantF_succ (h : List (List UInt8)) (k : Nat) : wantF h (k + 1) = wantF h k ++ (if (h.getD k []).isEmpty = true then [k] else []) := by
  unfold wantF
  rw [List.range_succ, List.filter_append]
  congr 1
  by_cases hh : (h.getD k []).isEmpty = true
  · rw [if_pos hh, List.filter_cons_of_pos (by simpa using hh)]; rfl
  · rw [if_neg hh, List.filter_cons_of_neg (by simpa using hh)]; rfl
theorem wantF_len (h : List (List UInt8)) (k : Nat) : (wantF h k).length ≤ k := by
  have := List.length_filter_le (fun i => (h.getD i []).isEmpty) (List.range k)
  rwa [List.length_range] at this
theorem App.nil (w : World) (base : Nat) (e : TypeId) : App w base e (.slice none 0 0) 0 [] := .inr (World.ownsRow_nil _ _ _ _)
theorem App.keep {w w' : World} {base n : Nat} {e : TypeId} {v : Value} {xs : List Value} (h : App w base e v n xs) (hb : Below w.heap.size w w') : App w' base e v n xs := h.below hb (Nat.le_refl _)

set_option maxRecDepth 100000 in
set_option maxHeartbeats 1000000 in
theorem Want_any (tr : Sum32) (A : Option Addr) (n c : Nat) (h : List (List UInt8)) (w : World) (hL : Lst w A n h) (hn : n ≤ 1000000) :
    Calls Tryd.prog 27 #[.agg (fetchC tr A n c).toArray] w fun e w' => ∃ A' c', e = .returned (.slice A' (wantL h).length c') ∧ Rd w' 1 A' (wantL h).length ((wantL h).map natV) ∧ Below w.heap.size w w' := by
  obtain ⟨i0, hi0, hz0, hz1, hz2⟩ := info_parts info3
  have hl := hL.len
  have hB : Below w.heap.size w (w.alloc (.cells (fetchC tr A n c).toArray 35)) := (Below.refl _ _).alloc (Nat.le_refl _) _
  have hC : Blk (w.alloc (.cells (fetchC tr A n c).toArray 35)) w.heap.size 35 (fetchC tr A n c).toArray := Blk.new _ _ _
  go_enter Tryd.func27, Tryd.ntmps27
  go_upto_region 1 with fail
  obtain ⟨w1, hw1⟩ : ∃ w1, w1 = w.alloc (.cells (fetchC tr A n c).toArray 35) := ⟨_, rfl⟩
  rw [← hw1] at hC hB ⊢
  clear hw1
  have hc : ∀ W, Below w1.heap.size w1 W → W.cell? ⟨w.heap.size, 32, none⟩ = some (.slice A n c) := fun W hW => by
    rw [(hC.below hW hC.lt).cell]; exact fetchC_have tr A n c
  have c32 := hc w1 (Below.refl _ _)
  have hs1 := hC.lt
  have hL1 := hL.below hB
  have Hc := Lib.hid hc
  have HB := Lib.hid hB
  have HL1 := Lib.hid hL1
  clear hc hB hC hL hL1
  go_wp2_with fail
  go_loopw [3, 4, 8] (fun v3 _ v8 wr => ∃ k : Nat, k ≤ n ∧ v8 = .int .i64 (k : Int) ∧ App wr w1.heap.size 3 v3 (wantF h k).length ((wantF h k).map natV) ∧ Below w1.heap.size w1 wr) (fun _ _ v8 _ => n - (intOf v8).toNat)
  case atStart => exact ⟨0, by omega, rfl, App.nil _ _ _, Below.refl _ _⟩
  case round =>
    obtain ⟨k, hk, rfl, happ, hB1⟩ := hrel
    have c1 := Hc.out wr hB1
    clear c32
    by_cases hlt : k < n
    · obtain ⟨b, off, v, ck, rfl, hck, cc, hrd, hvc⟩ := (HL1.out.below hB1).at_ hlt
      have hvn := hrd.len1
      have hvl := hrd.le
      have hg : h.getD k [] = ck := by rw [List.getD_eq_getElem?_getD, hck]; rfl
      have hws := wantF_succ h k
      rw [hg] at hws
      have hwl := wantF_len h k
      have Happ := Lib.hid happ
      have HB1 := Lib.hid hB1
      have hsz := hB1.size
      clear hrd hck hg happ hB1
      by_cases he : v.n = 0
      · obtain rfl : ck = [] := List.eq_nil_of_length_eq_zero (by omega)
        rw [if_pos (show ([] : List UInt8).isEmpty = true from rfl)] at hws
        have Hws := Lib.hid hws
        have hvi : ((v.n : Int) == 0) = true := by rw [beq_iff_eq]; omega
        clear hws hvn
        go_wp2_with (at_builtin; go_loud (refine wpList_app rfl (.tmp 18) (.tmp 20) 38 rfl 3 i0 (.int .i64 0) 8 und65 hi0 hz0 hz1 hz2 rfl w1.heap.size (by simp; omega) _ _ _ rfl (Happ.out.litE _) (some ⟨wr.heap.size, 0, none⟩) 1 1 [natV k] rfl (lit_rdE _ _ _) (by simp [natV, Value.oneCell']) (by unfold maxLen; omega) (by omega) ?_; intro v1 w3 happ1 hb1))
        refine ⟨⟨k + 1, by omega, by go_num, ?_, (HB1.out.alloc hsz _).trans hb1⟩, by simp [intOf]; omega⟩
        rw [Hws.out, List.map_append, List.length_append]
        exact happ1
      · rw [if_neg (by cases ck with | nil => exact absurd hvn.symm (by simpa using he) | cons a t => simp), List.append_nil] at hws
        have Hws := Lib.hid hws
        have hvi : ((v.n : Int) == 0) = false := by rw [beq_eq_false_iff_ne]; omega
        clear hws hvn
        go_wp2_with fail
        exact ⟨⟨k + 1, by omega, by go_num, by rw [Hws.out]; exact Happ.out, HB1.out⟩, by simp [intOf]; omega⟩
    · obtain rfl : k = n := by omega
      obtain ⟨A', c', rfl, _, hR⟩ := happ.rd
      have hwl : wantF h k = wantL h := by unfold wantL; rw [hl]
      rw [hwl] at hR ⊢
      have HR := Lib.hid hR
      have HB1 := Lib.hid hB1
      clear hR hB1 happ hwl
      go_wp2_with fail
      go_ret
      exact ⟨A', c', rfl, HR.out, HB.out.trans (HB1.out.mono (by omega))⟩
set_option maxRecDepth 100000 in
set_option maxHeartbeats 1000000 in
theorem RWant_any (tr : Sum32) (A : Option Addr) (n c : Nat) (h : List (List UInt8)) (w : World) (hL : Lst w A n h) (hn : n ≤ 1000000) :
    Calls Tryd.prog 28 #[.agg (fetchC tr A n c).toArray] w fun e w' => ∃ A' c', e = .returned (.slice A' (wantL h).length c') ∧ Rd w' 1 A' (wantL h).length ((wantL h).map natV) ∧ Below w.heap.size w w' := by
  obtain ⟨i0, hi0, hz0, hz1, hz2⟩ := info_parts info3
  have hl := hL.len
  have hB : Below w.heap.size w (w.alloc (.cells (fetchC tr A n c).toArray 35)) := (Below.refl _ _).alloc (Nat.le_refl _) _
  have hC : Blk (w.alloc (.cells (fetchC tr A n c).toArray 35)) w.heap.size 35 (fetchC tr A n c).toArray := Blk.new _ _ _
  go_enter Tryd.func28, Tryd.ntmps28
  go_upto_region 1 with fail
  obtain ⟨w1, hw1⟩ : ∃ w1, w1 = w.alloc (.cells (fetchC tr A n c).toArray 35) := ⟨_, rfl⟩
  rw [← hw1] at hC hB ⊢
  clear hw1
  have hc : ∀ W, Below w1.heap.size w1 W → W.cell? ⟨w.heap.size, 32, none⟩ = some (.slice A n c) := fun W hW => by
    rw [(hC.below hW hC.lt).cell]; exact fetchC_have tr A n c
  have c32 := hc w1 (Below.refl _ _)
  have hs1 := hC.lt
  have hL1 := hL.below hB
  have Hc := Lib.hid hc
  have HB := Lib.hid hB
  have HL1 := Lib.hid hL1
  clear hc hB hC hL hL1
  go_wp2_with fail
  go_loopw [3, 4] (fun v3 v8 wr => ∃ k : Nat, k ≤ n ∧ v8 = .int .i64 (k : Int) ∧ App wr w1.heap.size 3 v3 (wantF h k).length ((wantF h k).map natV) ∧ Below w1.heap.size w1 wr) (fun _ v8 _ => n - (intOf v8).toNat)
  case atStart => exact ⟨0, by omega, rfl, .inl ⟨rfl, rfl, _, rfl⟩, (Below.refl _ _).alloc (Nat.le_refl _) _⟩
  case round =>
    obtain ⟨k, hk, rfl, happ, hB1⟩ := hrel
    have c1 := Hc.out wr hB1
    clear c32
    by_cases hlt : k < n
    · obtain ⟨b, off, v, ck, rfl, hck, cc, hrd, hvc⟩ := (HL1.out.below hB1).at_ hlt
      have hvn := hrd.len1
      have hvl := hrd.le
      have hg : h.getD k [] = ck := by rw [List.getD_eq_getElem?_getD, hck]; rfl
      have hws := wantF_succ h k
      rw [hg] at hws
      have hwl := wantF_len h k
      have Happ := Lib.hid happ
      have HB1 := Lib.hid hB1
      have hsz := hB1.size
      clear hrd hck hg happ hB1
      by_cases he : v.n = 0
      · obtain rfl : ck = [] := List.eq_nil_of_length_eq_zero (by omega)
        rw [if_pos (show ([] : List UInt8).isEmpty = true from rfl)] at hws
        have Hws := Lib.hid hws
        have hvi : ((v.n : Int) == 0) = true := by rw [beq_iff_eq]; omega
        clear hws hvn
        go_wp2_with (at_builtin; go_loud (refine wpList_app rfl (.tmp 20) (.tmp 22) 38 rfl 3 i0 (.int .i64 0) 8 und65 hi0 hz0 hz1 hz2 rfl w1.heap.size (by simp; omega) _ _ _ rfl (Happ.out.litE _) (some ⟨wr.heap.size, 0, none⟩) 1 1 [natV k] rfl (lit_rdE _ _ _) (by simp [natV, Value.oneCell']) (by unfold maxLen; omega) (by omega) ?_; intro v1 w3 happ1 hb1))
        refine ⟨⟨k + 1, by omega, by go_num, ?_, (HB1.out.alloc hsz _).trans hb1⟩, by simp [intOf]; omega⟩
        rw [Hws.out, List.map_append, List.length_append]
        exact happ1
      · rw [if_neg (by cases ck with | nil => exact absurd hvn.symm (by simpa using he) | cons a t => simp), List.append_nil] at hws
        have Hws := Lib.hid hws
        have hvi : ((v.n : Int) == 0) = false := by rw [beq_eq_false_iff_ne]; omega
        clear hws hvn
        go_wp2_with fail
        exact ⟨⟨k + 1, by omega, by go_num, by rw [Hws.out]; exact Happ.out, HB1.out⟩, by simp [intOf]; omega⟩
    · obtain rfl : k = n := by omega
      obtain ⟨A', c', rfl, _, hR⟩ := happ.rd
      have hwl : wantF h k = wantL h := by unfold wantL; rw [hl]
      rw [hwl] at hR ⊢
      have HR := Lib.hid hR
      have HB1 := Lib.hid hB1
      clear hR hB1 happ hwl
      go_wp2_with fail
      go_ret
      exact ⟨A', c', rfl, HR.out, HB.out.trans (HB1.out.mono (by omega))⟩
set_option maxRecDepth 100000 in
set_option maxHeartbeats 1000000 in
theorem RInts_any (A B : Option Addr) (n m c d : Nat) (xs ys : List Nat) (w : World) (hx : Rd w 1 A n (xs.map natV)) (hy : Rd w 1 B m (ys.map natV)) :
    Calls Tryd.prog 26 #[.slice A n c, .slice B m d] w fun e w' => e = .returned (.bool (decide (xs = ys))) ∧ Below w.heap.size w w' := by
  have hxl := hx.len1
  have hyl := hy.len1
  have hnl := hx.le
  have hml := hy.le
  go_enter Tryd.func26, Tryd.ntmps26
  by_cases hnm : n = m
  · subst hnm
    have Hx := Lib.hid hx
    have Hy := Lib.hid hy
    have Hxl := Lib.hid hxl
    have Hyl := Lib.hid hyl
    clear hx hy hxl hyl
    go_wp2_with fail
    go_loopw [5] (fun v5 wr => ∃ k : Nat, k ≤ n ∧ v5 = .int .i64 (k : Int) ∧ xs.take k = ys.take k ∧ Below w.heap.size w wr) (fun v5 _ => n - (intOf v5).toNat)
    case atStart => exact ⟨0, by omega, rfl, rfl, Below.refl _ _⟩
    case round =>
      obtain ⟨k, hk, rfl, hpre, hB⟩ := hrel
      by_cases hlt : k < n
      · obtain ⟨b, off, x, rfl, hxk, cx⟩ := (Hx.out.below hB).at_ hlt
        obtain ⟨b', off', y, rfl, hyk, cy⟩ := (Hy.out.below hB).at_ hlt
        have cx' : wr.cell? ⟨b, off + k, none⟩ = some (.int .i64 (x : Int)) := cx
        have cy' : wr.cell? ⟨b', off' + k, none⟩ = some (.int .i64 (y : Int)) := cy
        have htk := take_succ_eq hxk hyk
        have HB := Lib.hid hB
        have Hpre := Lib.hid hpre
        by_cases hxy : x = y
        · have Hs := Lib.hid (htk.2 ⟨hpre, hxy⟩)
          subst hxy
          clear cx cy hB hpre htk hxk hyk
          go_upto_region 6 with fail
          go_quiet (fail)
          have hBq := below_drewN HB.out nq
          have HBq := Lib.hid hBq
          clear hBq
          generalize wr.drewN nq = wq at *
          go_wp2_with fail
          exact ⟨⟨k + 1, by omega, by go_num, Hs.out, HBq.out⟩, by simp [intOf]; omega⟩
        · have hne : xs ≠ ys := fun e => hxy (by rw [e, hyk] at hxk; exact (Option.some.inj hxk).symm)
          have Hv := Lib.hid (decide_eq_false hne)
          have hd : ((x : Int) == (y : Int)) = false := by rw [beq_eq_false_iff_ne]; omega
          have hd2 : ((x : Int) != (y : Int)) = true := by simp; omega
          clear cx cy hB hpre htk hxk hyk hne
          go_upto_region 6 with fail
          go_quiet (fail)
          have hBq := below_drewN HB.out nq
          have HBq := Lib.hid hBq
          clear hBq
          generalize wr.drewN nq = wq at *
          go_wp2_with fail
          go_ret
          exact ⟨by rw [Hv.out]; rfl, HBq.out⟩
      · have he : xs = ys := by
          rw [List.take_of_length_le (by have := Hxl.out; omega), List.take_of_length_le (by have := Hyl.out; omega)] at hpre
          exact hpre
        have Hv := Lib.hid (decide_eq_true he)
        have HB := Lib.hid hB
        clear hpre he hB
        go_wp2_with fail
        go_ret
        exact ⟨by rw [Hv.out]; rfl, HB.out⟩
  · have hne : xs ≠ ys := fun e => hnm (by rw [← hxl, ← hyl, e])
    have Hv := Lib.hid (decide_eq_false hne)
    have hd : ((n : Int) == (m : Int)) = false := by rw [beq_eq_false_iff_ne]; omega
    clear hx hy hxl hyl hne
    go_wp2_with fail
    go_ret
    exact ⟨by rw [Hv.out]; rfl, Below.refl _ _⟩
end Go.Proofs.YthlecmmngldodaaDoor
