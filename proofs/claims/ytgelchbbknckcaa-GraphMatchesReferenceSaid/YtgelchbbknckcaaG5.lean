/- Package graph: the order of ways. -/
import Derived.Test.YtgelchbbknckcaaG4
namespace Go.Proofs.Ytgelchbbknckcaa
open Go.RowKit Go.Sort

/-- The first number that is not 0, or 0. -/
def orL : List Int → Int
  | [] => 0
  | x :: xs => if x = 0 then orL xs else x
set_option maxRecDepth 100000 in
set_option maxHeartbeats 1000000 in
theorem Or_any (A : Option Addr) (n c : Nat) (xs : List Int) (w : World) (hx : Rd w 1 A n (xs.map intV)) :
    Calls Try.prog 43 #[.slice A n c] w fun e w' => e = .returned (.int .i64 (orL xs)) ∧ w' = w := by
  have hxl := hx.len1
  have hnl := hx.le
  obtain ⟨R, hR⟩ : ∃ R, R = orL xs := ⟨_, rfl⟩
  rw [← hR]
  have HR := Lib.hid hR
  have Hx := Lib.hid hx
  have Hxl := Lib.hid hxl
  clear hR hx hxl
  go_enter Try.func43, Try.ntmps43
  go_wp2_with fail
  go_loopw [8] (fun v8 wr => ∃ k : Nat, v8 = .int .i64 (k : Int) ∧ k ≤ n ∧ orL (xs.drop k) = R ∧ wr = w) (fun v8 _ => n - (intOf v8).toNat)
  case atStart => exact ⟨0, rfl, by omega, by rw [HR.out]; rfl, rfl⟩
  case round =>
    obtain ⟨k, rfl, hk, hrest, rfl⟩ := hrel
    by_cases hlt : k < n
    · obtain ⟨b, off, x, rfl, hxk, cx⟩ := Hx.out.at_ hlt
      have cx' : wr.cell? ⟨b, off + k, none⟩ = some (.int .i64 x) := cx
      obtain ⟨l1, e1⟩ := List.getElem?_eq_some_iff.1 hxk
      rw [List.drop_eq_getElem_cons l1, e1] at hrest
      by_cases h0 : x = 0
      · have hr2 : orL (xs.drop (k + 1)) = R := by rw [← hrest, orL, if_pos h0]
        have Hr2 := Lib.hid hr2
        subst h0
        clear hr2 hrest l1 e1 hxk cx
        go_wp2_with fail
        exact ⟨⟨k + 1, by go_num, by omega, Hr2.out, trivial⟩, by simp [intOf]; omega⟩
      · have hr2 : x = R := by rw [← hrest, orL, if_neg h0]
        have Hr2 := Lib.hid hr2
        have hd : (x == 0) = false := by rw [beq_eq_false_iff_ne]; exact h0
        have hd2 : (x != 0) = true := by rw [bne, hd]; rfl
        clear hr2 hrest l1 e1 hxk cx h0
        go_wp2_with fail
        go_ret
        exact ⟨by rw [← Hr2.out]; rfl, rfl⟩
    · rw [List.drop_of_length_le (by have := Hxl.out; omega)] at hrest
      have hr2 : (0 : Int) = R := hrest
      have Hr2 := Lib.hid hr2
      have hd : decide ((k : Int) < (n : Int)) = false := decide_eq_false (by omega)
      have hd2 : decide (k < n) = false := decide_eq_false hlt
      clear hr2 hrest hlt
      go_wp2_with fail
      go_ret
      exact ⟨by rw [← Hr2.out]; rfl, rfl⟩

/-- A way as it lies in memory: its links, its cost, whether it is found, whether it is known. -/
def wyC (A : Option Addr) (n c : Nat) (k : Int) (f kn : Bool) : List Value := [.slice A n c, .int .i64 k, .bool f, .bool kn]
theorem wyC_len (A : Option Addr) (n c : Nat) (k : Int) (f kn : Bool) : (wyC A n c k f kn).length = 4 := rfl
/-- The order of ways that are found. -/
def cmp3 (k l : Int) (xs ys : List Int) : Int := orL [cmpI k l, cmpI xs.length ys.length, cmpLI xs ys]
def cmpF (f g : Bool) (k l : Int) (xs ys : List Int) : Int := if f = g then cmp3 k l xs ys else if f = true then -1 else 1
set_option maxRecDepth 100000 in
set_option maxHeartbeats 2000000 in
theorem compare_any (A B : Option Addr) (n m c d : Nat) (xs ys : List Int) (k l : Int) (f g p q : Bool) (w : World) (hx : Rd w 1 A n (xs.map intV)) (hy : Rd w 1 B m (ys.map intV)) :
    Calls Try.prog 37 #[.agg (wyC A n c k f p).toArray, .agg (wyC B m d l g q).toArray] w fun e w' => e = .returned (.int .i64 (cmpF f g k l xs ys)) ∧ Below w.heap.size w w' := by
  have hxl := hx.len1
  have hyl := hy.len1
  have hnl := hx.le
  have hml := hy.le
  obtain ⟨R, hR⟩ : ∃ R, R = cmpF f g k l xs ys := ⟨_, rfl⟩
  rw [← hR]
  have HR := Lib.hid hR
  have Hxl := Lib.hid hxl
  have Hyl := Lib.hid hyl
  clear hR hxl hyl
  go_enter Try.func37, Try.ntmps37
  go_upto_region 1 with fail
  try simp only [World.size_alloc]
  obtain ⟨w1, hw1⟩ : ∃ v, v = (w.alloc (.cells (wyC A n c k f p).toArray 70)).alloc (.cells (wyC B m d l g q).toArray 70) := ⟨_, rfl⟩
  have hB : Below w.heap.size w w1 := by rw [hw1]; exact ((Below.refl _ _).alloc (Nat.le_refl _) _).alloc (by simp) _
  have hC : Blk w1 w.heap.size 70 (wyC A n c k f p).toArray := by rw [hw1]; exact (Blk.new _ _ _).alloc _
  have hD : Blk w1 (w.heap.size + 1) 70 (wyC B m d l g q).toArray := by
    have := Blk.new (w.alloc (.cells (wyC A n c k f p).toArray 70)) 70 (wyC B m d l g q).toArray
    rw [World.size_alloc] at this
    rw [hw1]; exact this
  rw [← hw1]
  clear hw1
  have a0 : w1.cell? ⟨w.heap.size, 0, none⟩ = some (.slice A n c) := by rw [hC.cell]; rfl
  have b0 : w1.cell? ⟨w.heap.size + 1, 0, none⟩ = some (.slice B m d) := by rw [hD.cell]; rfl
  have a1 : w1.cell? ⟨w.heap.size, 1, none⟩ = some (.int .i64 k) := by rw [hC.cell]; rfl
  have b1 : w1.cell? ⟨w.heap.size + 1, 1, none⟩ = some (.int .i64 l) := by rw [hD.cell]; rfl
  have a2 : w1.cell? ⟨w.heap.size, 2, none⟩ = some (.bool f) := by rw [hC.cell]; rfl
  have b2 : w1.cell? ⟨w.heap.size + 1, 2, none⟩ = some (.bool g) := by rw [hD.cell]; rfl
  have HB := Lib.hid hB
  have Hx := Lib.hid (hx.below hB)
  have Hy := Lib.hid (hy.below hB)
  clear hC hD hB hx hy
  have main : f = g → R = cmp3 k l xs ys := fun e => by rw [HR.out]; unfold cmpF; rw [if_pos e]
  by_cases hfg : f = g
  · have hm := main hfg
    have Hm := Lib.hid hm
    have hne : (f != g) = false := by rw [hfg]; simp
    subst hfg
    clear main hm
    go_upto_region 5 with fail
    have a0r := cell_regrown a0
    have b0r := cell_regrown b0
    have a1r := cell_regrown a1
    have b1r := cell_regrown b1
    clear a0 b0 a1 b1 a2 b2
    refine wp_region_reads_tail 19 [0, 1, 2, 3, 5, 6, 7, 8, 9, 10, 12, 13, 14, 15] 5 (by kernel_rfl) (List.take_append_drop _ _) rfl (by kernel_rfl) (by kernel_rfl) (by kernel_rfl) (by decide) (by kernel_rfl) (by kernel_rfl) (fun _ _ d _ _ h => by cases d <;> exact h) (by kernel_rfl) (by kernel_rfl) rfl ?_
    simp only [List.take_succ_cons, List.take_zero, List.drop_succ_cons, List.drop_zero, pickOps, List.getElem?_cons_zero, List.getElem?_cons_succ]
    repeat (go_big_quiet_step (fail))
    refine wpQuiet_nil ?_
    clear a0r b0r a1r b1r
    refine web_start0 (fs := []) [.act 4 [], .act 11 [], .act 16 [], .act 17 [], .act 18 []] _ _ (by kernel_rfl) (fun _ _ d _ _ h => by cases d <;> exact h) trivial (by decide) (by decide) (by kernel_rfl) (by kernel_rfl) (ext_drew (ext_refl _)) (by intro F hF; simp at hF) 5 (by decide) (by kernel_rfl) ?_
    intro v1 W hW _ o ho K hK
    cases ho
    have hbW : Below w1.heap.size w1 W := ((Below.refl _ w1).drew).trans hW
    simp only [putS, List.foldl_nil, Act.put]
    have Hc := Lib.hid (CmpN_any k l W)
    unfold StepP
    go_simp
    refine Hc.out.mono ?_
    rintro e W2 ⟨rfl, hw2⟩
    subst hw2
    refine hK _ _ (by intro F hF; simp at hF) (Below.refl _ _) ?_
    clear hK K Hc hW
    intro v2 W3 hW3 _ o ho K hK
    cases ho
    have hb3 := hbW.trans (hW3.mono hbW.size)
    simp only [putS, List.foldl_nil, Act.put]
    have Hc := Lib.hid (CmpN_any (n : Int) (m : Int) W3)
    unfold StepP
    go_simp
    refine Hc.out.mono ?_
    rintro e W4 ⟨rfl, hw4⟩
    subst hw4
    refine hK _ _ (by intro F hF; simp at hF) (Below.refl _ _) ?_
    clear hK K Hc hW3
    intro v3 W5 hW5 _ o ho K hK
    cases ho
    have hb5 := hb3.trans (hW5.mono hb3.size)
    simp only [putS, List.foldl_nil, Act.put]
    have Hc := Lib.hid (CmpL_any A B n m c d xs ys W5 (Hx.out.below hb5) (Hy.out.below hb5))
    unfold StepP
    go_simp
    refine Hc.out.mono ?_
    rintro e W6 ⟨rfl, hw6⟩
    subst hw6
    refine hK _ _ (by intro F hF; simp at hF) (Below.refl _ _) ?_
    clear hK K Hc hW5
    intro v4 W7 hW7 _ o ho K hK
    cases ho
    have hb7 := hb5.trans (hW7.mono hb5.size)
    simp only [putS, List.foldl_nil, Act.put]
    unfold StepP
    go_simp
    obtain ⟨x1, h1⟩ : ∃ x1 : Int, x1 = (if k < l then -1 else if l < k then 1 else 0) := ⟨_, rfl⟩
    obtain ⟨x2, h2⟩ : ∃ x2 : Int, x2 = (if n < m then -1 else if m < n then 1 else 0) := ⟨_, rfl⟩
    obtain ⟨x3, h3⟩ : ∃ x3 : Int, x3 = cmpLI xs ys := ⟨_, rfl⟩
    rw [← h1, ← h2, ← h3]
    have hor : orL [x1, x2, x3] = R := by
      rw [Hm.out, h1, h2, h3]
      unfold cmp3 cmpI
      rw [Hxl.out, Hyl.out]
      have e2 : (if n < m then (-1 : Int) else if m < n then 1 else 0) = (if (n : Int) < (m : Int) then -1 else if (m : Int) < (n : Int) then 1 else 0) := by
        by_cases q1 : n < m
        · rw [if_pos q1, if_pos (by omega)]
        · rw [if_neg q1, if_neg (show ¬ (n : Int) < (m : Int) by omega)]
          by_cases q2 : m < n
          · rw [if_pos q2, if_pos (by omega)]
          · rw [if_neg q2, if_neg (show ¬ (m : Int) < (n : Int) by omega)]
      rw [e2]
    have hr8 : Rd (W7.alloc (.cells #[.int .i64 x1, .int .i64 x2, .int .i64 x3] 3)) 1 (some ⟨W7.heap.size, 0, none⟩) 3 ([x1, x2, x3].map intV) := by
      have := Blk.rd (xs := [Value.int .i64 x1, .int .i64 x2, .int .i64 x3]) (Blk.new W7 3 _) (by simp)
      exact this
    have Hr8 := Lib.hid hr8
    have Hor := Lib.hid hor
    have hb8 := hb7.trans (((Below.refl W7.heap.size W7).alloc (Nat.le_refl _) (.cells #[.int .i64 x1, .int .i64 x2, .int .i64 x3] 3)).mono hb7.size)
    refine hK _ _ (by intro F hF; simp at hF) ((Below.refl _ _).alloc (Nat.le_refl _) _) ?_
    clear hK K hW7 hr8 hor h1 h2 h3
    intro v5 W9 hW9 _ o ho K hK
    cases ho
    have hb9 := hb8.trans (hW9.mono hb8.size)
    simp only [putS, List.foldl_nil, Act.put]
    have Hc := Lib.hid (Or_any (some ⟨W7.heap.size, 0, none⟩) 3 3 [x1, x2, x3] W9 (Hr8.out.below hW9))
    unfold StepP
    go_simp
    refine Hc.out.mono ?_
    rintro e W10 ⟨rfl, hw10⟩
    subst hw10
    rw [Hor.out]
    refine hK _ _ (by intro F hF; simp at hF) (Below.refl _ _) ?_
    clear hK K Hc hW9
    intro v6 W11 hW11 _
    have Hend := Lib.hid (HB.out.trans ((hb9.trans (hW11.mono hb9.size)).mono HB.out.size))
    simp only [Exit.then, putS, List.foldl_nil, Act.put]
    go_wp2_with fail
    go_ret
    exact ⟨rfl, Hend.out⟩
  · cases f with
    | true =>
      cases g with
      | true => exact absurd rfl hfg
      | false =>
        have Hv := Lib.hid (show R = -1 by rw [HR.out]; rfl)
        clear main hfg
        go_wp2_with fail
        go_ret
        exact ⟨by rw [Hv.out]; rfl, HB.out⟩
    | false =>
      cases g with
      | false => exact absurd rfl hfg
      | true =>
        have Hv := Lib.hid (show R = 1 by rw [HR.out]; rfl)
        clear main hfg
        go_wp2_with fail
        go_ret
        exact ⟨by rw [Hv.out]; rfl, HB.out⟩
end Go.Proofs.Ytgelchbbknckcaa
