/- The program's Longest: the longest beginning that stands in the text. -/
import Derived.Test.YtcelkneeedebiaaX22
import Derived.WalkMore
namespace Go.Proofs.Ytcelkneeedebiaa
open Go Go.RowKit Go.Sort Go.Shelf

theorem val_max {P : Program} {Q : Exit → Act → World → Prop} {o : Oper} {a : Act} {W : World} {R : Value → World → Prop} (x y : Operand) (ts : Array TypeId) (ho : o.op = .call { callee := .builtin .max, args := #[x, y], argTypes := ts }) (m n : Int) (hx : a.eval x = .int .i64 m) (hy : a.eval y = .int .i64 n) (h : R (.int .i64 (max m n)) W) : Val P Q o a W (fun v W' => Below W.heap.size W W' ∧ R v W') := fun K hK => by
  unfold Oper.wp execOp
  simp only [ho, resolve, invoke, builtin, List.map_toArray, List.map_cons, List.map_nil, hx, hy]
  simp [go_sem]
  exact hK _ _ ⟨Below.refl _ _, h⟩
theorem val_min {P : Program} {Q : Exit → Act → World → Prop} {o : Oper} {a : Act} {W : World} {R : Value → World → Prop} (x y : Operand) (ts : Array TypeId) (ho : o.op = .call { callee := .builtin .min, args := #[x, y], argTypes := ts }) (m n : Int) (hx : a.eval x = .int .i64 m) (hy : a.eval y = .int .i64 n) (h : R (.int .i64 (min m n)) W) : Val P Q o a W (fun v W' => Below W.heap.size W W' ∧ R v W') := fun K hK => by
  unfold Oper.wp execOp
  simp only [ho, resolve, invoke, builtin, List.map_toArray, List.map_cons, List.map_nil, hx, hy]
  simp [go_sem]
  exact hK _ _ ⟨Below.refl _ _, h⟩
theorem blk_newB {W : World} {B : Nat} {T : TypeId} {Z : Array Value} (h : B = W.heap.size) : Blk (W.alloc (.cells Z T)) B T Z := by subst h; exact Blk.new _ _ _
theorem sharedL_take : ∀ (L : Nat) (b s : List UInt8), sharedL b (s.take L) = min L (sharedL b s)
  | 0, b, s => by rw [List.take_zero, sharedL_nil]; omega
  | L + 1, b, [] => by rw [List.take_nil, sharedL_nil]; omega
  | L + 1, [], y :: s => by unfold sharedL; simp
  | L + 1, x :: b, y :: s => by
    rw [List.take_succ_cons]
    unfold sharedL
    by_cases e : x = y
    · rw [if_pos e, if_pos e, sharedL_take L b s]; omega
    · rw [if_neg e, if_neg e]; omega
/-- So much of the text stands at a place of the order. -/
def Good (xs ys : List UInt8) (l : List Nat) (L t : Nat) : Prop := L ≤ sharedL (xs.drop (l.getD t 0)) ys
theorem good_prefix {xs ys : List UInt8} {l : List Nat} {L t : Nat} (h : L ≤ ys.length) : decide (sharedL (xs.drop (l.getD t 0)) (ys.take L) = (ys.take L).length) = true ↔ Good xs ys l L t := by
  rw [decide_eq_true_eq, sharedL_take, List.length_take]
  unfold Good
  omega
/-- The places between have been looked at. -/
structure Sc (xs ys : List UInt8) (l : List Nat) (L n lo hi a : Nat) : Prop where
  all : ∀ t, lo ≤ t → t < hi → Good xs ys l L t ∧ a ≤ l.getD t 0
  one : (a = n ∧ hi ≤ lo) ∨ ∃ t, lo ≤ t ∧ t < hi ∧ l.getD t 0 = a
theorem Sc.start (xs ys : List UInt8) (l : List Nat) (L n P : Nat) : Sc xs ys l L n P P n := ⟨fun t h1 h2 => absurd h2 (by omega), .inl ⟨rfl, Nat.le_refl _⟩⟩
theorem Sc.left {xs ys : List UInt8} {l : List Nat} {L n q hi a : Nat} (h : Sc xs ys l L n (q + 1) hi a) (hq : q < hi) (g : Good xs ys l L q) (hn : l.getD q 0 < n) : Sc xs ys l L n q hi (min a (l.getD q 0)) := by
  refine ⟨fun t h1 h2 => ?_, ?_⟩
  · by_cases e : t = q
    · subst e; exact ⟨g, Nat.min_le_right _ _⟩
    · have := h.all t (by omega) h2
      exact ⟨this.1, Nat.le_trans (Nat.min_le_left _ _) this.2⟩
  · rcases h.one with ⟨e, hh⟩ | ⟨t, h1, h2, h3⟩
    · exact .inr ⟨q, Nat.le_refl _, hq, by omega⟩
    · by_cases hle : a ≤ l.getD q 0
      · exact .inr ⟨t, by omega, h2, by omega⟩
      · exact .inr ⟨q, Nat.le_refl _, hq, by omega⟩
theorem Sc.right {xs ys : List UInt8} {l : List Nat} {L n lo q a : Nat} (h : Sc xs ys l L n lo q a) (hq : lo ≤ q) (g : Good xs ys l L q) (hn : l.getD q 0 < n) : Sc xs ys l L n lo (q + 1) (min a (l.getD q 0)) := by
  refine ⟨fun t h1 h2 => ?_, ?_⟩
  · by_cases e : t = q
    · subst e; exact ⟨g, Nat.min_le_right _ _⟩
    · have := h.all t h1 (by omega)
      exact ⟨this.1, Nat.le_trans (Nat.min_le_left _ _) this.2⟩
  · rcases h.one with ⟨e, hh⟩ | ⟨t, h1, h2, h3⟩
    · exact .inr ⟨q, hq, by omega, by omega⟩
    · by_cases hle : a ≤ l.getD q 0
      · exact .inr ⟨t, h1, by omega, by omega⟩
      · exact .inr ⟨q, hq, by omega, by omega⟩
/-- How far the two ways have come. -/
def St (xs ys : List UInt8) (l : List Nat) (L n m P j a : Nat) : Prop :=
  (j = 0 ∧ a = n) ∨ (j = 1 ∧ ∃ lo, lo ≤ P ∧ Sc xs ys l L n lo P a ∧ (lo = 0 ∨ ¬ Good xs ys l L (lo - 1))) ∨
  (j = 2 ∧ ∃ lo hi, lo ≤ P ∧ P ≤ hi ∧ hi ≤ m ∧ Sc xs ys l L n lo hi a ∧ (lo = 0 ∨ ¬ Good xs ys l L (lo - 1)) ∧ (hi = m ∨ ¬ Good xs ys l L hi))
def lenOf (xs ys : List UInt8) (l : List Nat) (P m : Nat) : Nat := max (if 0 < P then sharedL (xs.drop (l.getD (P - 1) 0)) ys else 0) (if P < m then sharedL (xs.drop (l.getD P 0)) ys else 0)
theorem St.fin {xs ys : List UInt8} {l : List Nat} {L n P a : Nat} (h : St xs ys l L n l.length P 2 a) (ho : IsOrd xs l) (hP : P ≤ l.length) (hlo : ∀ i, i < P → lexlt (xs.drop (l.getD i 0)) ys = true) (hhi : ∀ i, P ≤ i → i < l.length → lexlt (xs.drop (l.getD i 0)) ys = false)
    (hL : L = lenOf xs ys l P l.length) (h0 : 0 < L) : IsFound xs ys a L := by
  rcases h with ⟨h, _⟩ | ⟨h, _⟩ | ⟨_, lo, hi, h1, h2, h3, hs, hl, hr⟩
  · cases h
  · cases h
  · have hex : lo < hi := by
      unfold lenOf at hL
      by_cases hA : 0 < P ∧ L ≤ sharedL (xs.drop (l.getD (P - 1) 0)) ys
      · rcases hl with hl | hl
        · omega
        · by_cases e : lo = P
          · subst e; exact absurd hA.2 hl
          · omega
      · by_cases hB : P < l.length ∧ L ≤ sharedL (xs.drop (l.getD P 0)) ys
        · rcases hr with hr | hr
          · omega
          · by_cases e : hi = P
            · subst e; exact absurd hB.2 hr
            · omega
        · exfalso
          by_cases p1 : 0 < P
          · rw [if_pos p1] at hL
            by_cases p2 : P < l.length
            · rw [if_pos p2] at hL; omega
            · rw [if_neg p2] at hL; omega
          · rw [if_neg p1] at hL
            by_cases p2 : P < l.length
            · rw [if_pos p2] at hL; omega
            · rw [if_neg p2] at hL; omega
    refine found_at ho hP hlo hhi hL h0 ?_ fun t ht hg => ?_
    · rcases hs.one with ⟨_, q⟩ | ⟨t, q1, q2, q3⟩
      · omega
      · exact ⟨t, by omega, q3, (hs.all t q1 q2).1⟩
    · by_cases g1 : t < lo
      · exfalso
        rcases hl with hl | hl
        · omega
        · have := mono_left ho hP hlo (i := t) (j := lo - 1) (by omega) (by omega)
          exact hl (Nat.le_trans hg this)
      · by_cases g2 : t < hi
        · exact (hs.all t (by omega) g2).2
        · exfalso
          rcases hr with hr | hr
          · omega
          · have := mono_right ho hhi (i := hi) (j := t) (by omega) h2 ht
            exact hr (Nat.le_trans hg this)
theorem St.none {xs ys : List UInt8} {l : List Nat} {P : Nat} (ho : IsOrd xs l) (hP : P ≤ l.length) (hlo : ∀ i, i < P → lexlt (xs.drop (l.getD i 0)) ys = true) (hhi : ∀ i, P ≤ i → i < l.length → lexlt (xs.drop (l.getD i 0)) ys = false) (hL : lenOf xs ys l P l.length = 0) : IsFound xs ys 0 0 := found_none ho hP hlo hhi hL
theorem lenOf_le (xs ys : List UInt8) (l : List Nat) (P m : Nat) : lenOf xs ys l P m ≤ ys.length := by
  unfold lenOf
  have h1 := (sharedL_le (xs.drop (l.getD (P - 1) 0)) ys).2
  have h2 := (sharedL_le (xs.drop (l.getD P 0)) ys).2
  split <;> split <;> omega
theorem run_bytes_to (a : Option Addr) (n c m : Nat) (hm : m ≤ c) (w : World) : (Instr.slice 22 (.slice a n c) none (some (.int .i64 (m : Int))) none).run Try.prog w = .ok (.slice a m c) w := by
  obtain ⟨iE, hi'⟩ : ∃ i, Try.prog.info? 5 = some i := by
    have := size5
    unfold Program.cellsOf at this
    cases h : Try.prog.info? 5 with
    | none => simp [h] at this
    | some i => exact ⟨i, rfl⟩
  rw [run_slice_h (P := Try.prog) w 22 a n c Try.underlying22 .i64 (m : Int) (by omega) (by omega), elem22, run_sizeOf w hi', size5]
  simp only [Result.andThen_ok, sliced, Int.toNat_natCast, Nat.zero_mul, Nat.sub_zero]
  have h0 : ∀ x : Addr, x.add 0 = x := fun x => by obtain ⟨b, o, s⟩ := x; unfold Addr.add; split <;> simp_all
  cases a with
  | none => simp
  | some x => simp [h0]

set_option maxRecDepth 100000 in
set_option maxHeartbeats 8000000 in
theorem Longest_any (A O B : Option Addr) (n m k c d e : Nat) (xs ys : List UInt8) (l : List Nat) (w : World) (hx : Rd w 1 A n (xs.map byteV)) (ho : Rd w 1 O m (l.map natV)) (hy : Rd w 1 B k (ys.map byteV)) (hord : IsOrd xs l) (hnc : n ≤ c) (hke : k ≤ e) (hn : n ≤ 100000) (_hk : k ≤ 100000) :
    Calls Try.prog 15 #[.slice A n c, .slice O m d, .slice B k e] w fun e w' => (∃ a L : Nat, e = .returned (.agg (fdV (a : Int) (L : Int)).toArray) ∧ IsFound xs ys a L) ∧ Below w.heap.size w w' := by
  obtain ⟨i29, hi29, hz29, hs29, hy29⟩ := info_parts info29
  obtain ⟨d29, hd29, hrow29⟩ := und29
  have hxl := hx.len1
  have hol := ho.len1
  have hyl := hy.len1
  have hmn : m = n := by rw [← hol, hord.len, hxl]
  have Hlx := Lib.hid (show ∀ i ∈ l, i < n from fun i hi => by rw [← hxl]; exact hord.mem.1 hi)
  have Hx := Lib.hid hx
  have Ho := Lib.hid ho
  have Hy := Lib.hid hy
  have Hxl := Lib.hid hxl
  have Hol := Lib.hid hol
  have Hyl := Lib.hid hyl
  have Hord := Lib.hid hord
  have Hmn := Lib.hid hmn
  have hm : m ≤ 100000 := by omega
  clear hx ho hy hxl hol hyl hord hmn
  go_enter Try.func15, Try.ntmps15
  go_upto_region 1 with fail
  obtain ⟨w1, hw1⟩ : ∃ v, v = (((w.alloc (.cells #[.slice A n c] 22)).alloc (.cells #[.slice O m d] 25)).alloc (.cells #[.slice B k e] 22)).alloc (.cells #[.int .i64 0, .int .i64 0] 29) := ⟨_, rfl⟩
  obtain ⟨X3, hX3⟩ : ∃ v, v = w.heap.size := ⟨_, rfl⟩
  obtain ⟨X4, hX4⟩ : ∃ v, v = w.heap.size + 1 := ⟨_, rfl⟩
  obtain ⟨X5, hX5⟩ : ∃ v, v = w.heap.size + 1 + 1 := ⟨_, rfl⟩
  obtain ⟨X6, hX6⟩ : ∃ v, v = w.heap.size + 1 + 1 + 1 := ⟨_, rfl⟩
  have b3 : Blk w1 X3 22 #[.slice A n c] := by rw [hw1]; exact (((blk_newB (by rw [hX3])).alloc _).alloc _).alloc _
  have b4 : Blk w1 X4 25 #[.slice O m d] := by rw [hw1]; exact ((blk_newB (by rw [hX4]; simp)).alloc _).alloc _
  have b5 : Blk w1 X5 22 #[.slice B k e] := by rw [hw1]; exact (blk_newB (by rw [hX5]; simp)).alloc _
  have b6 : Blk w1 X6 29 (fdV 0 0).toArray := by rw [hw1]; exact blk_newB (by rw [hX6]; simp)
  have hB1 : Below w.heap.size w w1 := by rw [hw1]; exact ((((Below.refl _ _).alloc (Nat.le_refl _) _).alloc (by simp) _).alloc (by simp; omega) _).alloc (by simp; omega) _
  have hz1 : w1.heap.size = w.heap.size + 1 + 1 + 1 + 1 := by rw [hw1]; simp
  rw [← hw1, ← hX6, ← hX5, ← hX4, ← hX3]
  have Hq := Lib.hid (show w.heap.size ≤ X3 ∧ w.heap.size ≤ X4 ∧ w.heap.size ≤ X5 ∧ w.heap.size ≤ X6 ∧ X3 < X6 ∧ X4 < X6 ∧ X5 < X6 ∧ X6 < w1.heap.size by omega)
  have Hb3 := Lib.hid b3
  have Hb4 := Lib.hid b4
  have Hb5 := Lib.hid b5
  have Hb6 := Lib.hid b6
  have HB1 := Lib.hid hB1
  have c4 : w1.cell? ⟨X4, 0, none⟩ = some (.slice O m d) := by rw [b4.cell]; rfl
  have HF := Lib.hid (Find_any X3 X4 X5 n c m d k e A O B xs ys l w1 (by rw [b3.cell]; rfl) c4 (by rw [b5.cell]; rfl) (Hx.out.below hB1) (Hy.out.below hB1) (Ho.out.below hB1) Hord.out hnc (by omega))
  clear hw1 hX3 hX4 hX5 hX6 b3 b4 b5 b6 hB1 hz1
  go_wp2_with fail
  refine HF.out.mono ?_
  rintro e2 w2 ⟨⟨P, rfl, hPm, hlo, hhi⟩, hb2⟩
  have Hlo := Lib.hid hlo
  have Hhi := Lib.hid hhi
  clear HF c4 hlo hhi
  go_upto_region 3 with fail
  obtain ⟨w3, hw3⟩ : ∃ v, v = w2.alloc (.cells #[.int .i64 0, .int .i64 0] 29) := ⟨_, rfl⟩
  obtain ⟨X8, hX8⟩ : ∃ v, v = w2.heap.size := ⟨_, rfl⟩
  have b8 : Blk w3 X8 29 (fdV 0 0).toArray := by rw [hw3]; exact blk_newB hX8
  have hb3 : Below w1.heap.size w1 w3 := by rw [hw3]; exact hb2.alloc hb2.size _
  have H68 := Lib.hid (show X6 < X8 by have := hb2.size; have := Hq.out; omega)
  rw [← hw3, ← hX8]
  clear hw3 hX8 hb2
  replace Hb3 := Lib.hid (Hb3.out.below hb3 Hb3.out.lt)
  replace Hb4 := Lib.hid (Hb4.out.below hb3 Hb4.out.lt)
  replace Hb5 := Lib.hid (Hb5.out.below hb3 Hb5.out.lt)
  replace Hb6 := Lib.hid (Hb6.out.below hb3 Hb6.out.lt)
  have Hb8 := Lib.hid b8
  have HB3 := Lib.hid (HB1.out.trans (hb3.mono HB1.out.size))
  clear b8 hb3
  -- what is kept but for the result's variable
  have Hkeep := Lib.hid (show ∀ W, KeptIn (fun k => k < w3.heap.size ∧ k ≠ X8) w3 W → Blk W X3 22 #[.slice A n c] ∧ Blk W X4 25 #[.slice O m d] ∧ Blk W X5 22 #[.slice B k e] ∧ Blk W X6 29 (fdV 0 0).toArray ∧ Below w.heap.size w W from fun W hk => by
    have := H68.out
    have := Hq.out
    have := HB1.out.size
    exact ⟨Hb3.out.keptIn hk ⟨Hb3.out.lt, by omega⟩, Hb4.out.keptIn hk ⟨Hb4.out.lt, by omega⟩, Hb5.out.keptIn hk ⟨Hb5.out.lt, by omega⟩, Hb6.out.keptIn hk ⟨Hb6.out.lt, by omega⟩, HB3.out.trans (hk.below fun q hq => ⟨by have := HB3.out.size; omega, by omega⟩)⟩)
  go_upto_if 18 with fail
  go_cut [18] from 19 to 28 (fun _ wx => Blk wx X8 29 (fdV 0 ((if 0 < P then sharedL (xs.drop (l.getD (P - 1) 0)) ys else 0 : Nat) : Int)).toArray ∧ KeptIn (fun k => k < w3.heap.size ∧ k ≠ X8) w3 wx)
  case first =>
    obtain ⟨g3, g4, g5, g6, gB⟩ := Hkeep.out w3 (KeptIn.refl _ _)
    by_cases hP : 0 < P
    · obtain ⟨q, hq⟩ : ∃ q, P = q + 1 := ⟨P - 1, by omega⟩
      have hqm : q < m := by omega
      obtain ⟨ob, oo, rfl, _⟩ := Ho.out.2.2 (by omega)
      obtain ⟨hpn, cp⟩ := ord_at (n := n) (Ho.out.below gB) Hlx.out hqm
      obtain ⟨bb, bo, rfl, _⟩ := Hx.out.2.2 (by omega)
      have hif : (if 0 < P then sharedL (xs.drop (l.getD (P - 1) 0)) ys else 0) = sharedL (xs.drop (l.getD q 0)) ys := by rw [if_pos hP, show P - 1 = q by omega]
      generalize l.getD q 0 = p at *
      obtain ⟨s, hs⟩ : ∃ s, s = sharedL (xs.drop p) ys := ⟨_, rfl⟩
      rw [← hs] at hif
      have Hif := Lib.hid hif
      clear hif
      have HS := Lib.hid hs.symm
      have Hp := Lib.hid (rd_drop (Hx.out.below gB) (show p ≤ n by omega))
      have Hyr := Lib.hid (Hy.out.below gB)
      have c3 : w3.cell? ⟨X3, 0, none⟩ = some (.slice (some ⟨bb, bo, none⟩) n c) := by rw [g3.cell]; rfl
      have c4 : w3.cell? ⟨X4, 0, none⟩ = some (.slice (some ⟨ob, oo, none⟩) m d) := by rw [g4.cell]; rfl
      have c5 : w3.cell? ⟨X5, 0, none⟩ = some (.slice B k e) := by rw [g5.cell]; rfl
      have wj : IntKind.i64.wrap ((P : Int) - 1) = (q : Int) := by simp [IntKind.wrap, IntKind.bits, IntKind.signed]; omega
      have q1 : (q : Int) < (m : Int) := by omega
      have q0 : (0 : Int) ≤ (q : Int) := by omega
      have dP : decide ((P : Int) > 0) = true := decide_eq_true (by omega)
      have dP2 : decide (0 < P) = true := decide_eq_true hP
      clear hs hq hP g3 g4 g5 g6 gB
      rw [dP2]
      go_upto_region 4 with fail
      refine wp_region_flow_tail 10 [19, 20, 21, 22, 23, 24, 25, 26, 27, 28] [(Spec.is (.slice (some ⟨bb, bo, none⟩) n c), false), (Spec.is (.slice (some ⟨ob, oo, none⟩) m d), false), (Spec.is (.int .i64 (P : Int)), false), (Spec.is (.int .i64 (q : Int)), false), (Spec.is (.pointer (some ⟨ob, oo + q, none⟩)), false), (Spec.is (.int .i64 (p : Int)), false), (Spec.is (.slice (some ⟨bb, bo + p, none⟩) (n - p) (c - p)), false), (Spec.is (.slice B k e), false), (Spec.is (.int .i64 (s : Int)), false), (Spec.is (.pointer (some ⟨X8, 1, none⟩)), false)] 97 (by kernel_rfl) (List.take_append_drop _ _) rfl (by kernel_rfl) (by kernel_rfl) (by kernel_rfl) (by decide) (by kernel_rfl) (by kernel_rfl) (fun _ _ d _ _ h => by cases d <;> exact h) rfl (by decide) rfl (by decide) (by kernel_rfl) ?_ ?_
      · refine ⟨?_, ?_, ?_, ?_, ?_, ?_, ?_, ?_, ?_, ?_, trivial⟩
        · intro a W hE hb hs
          have h3 : a.eval (.tmp 3) = .pointer (some ⟨X3, 0, none⟩) := hb 3 (by decide)
          refine flow0 rfl ?_
          have c1 : W.cell? ⟨X3, 0, none⟩ = some (.slice (some ⟨bb, bo, none⟩) n c) := cell_ext hE c3
          intro K hK
          unfold Oper.wp execOp
          simp only [h3]
          simp [go_sem, c1]
          exact hK _ _ ⟨Below.refl _ _, rfl, trivial⟩
        · intro a W hE hb hs
          have h4 : a.eval (.tmp 4) = .pointer (some ⟨X4, 0, none⟩) := hb 4 (by decide)
          refine flow0 rfl ?_
          have c1 : W.cell? ⟨X4, 0, none⟩ = some (.slice (some ⟨ob, oo, none⟩) m d) := cell_ext hE c4
          intro K hK
          unfold Oper.wp execOp
          simp only [h4]
          simp [go_sem, c1]
          exact hK _ _ ⟨Below.refl _ _, rfl, trivial⟩
        · intro a W hE hb hs
          have h7 : a.eval (.tmp 7) = .int .i64 (P : Int) := hb 7 (by decide)
          refine flow0 rfl ?_
          exact val_move _ rfl _ h7 ⟨rfl, trivial⟩
        · intro a W hE hb hs
          have h21 : a.eval (.tmp 21) = .int .i64 (P : Int) := hs 2 (by decide)
          refine flow0 rfl ?_
          intro K hK
          unfold Oper.wp execOp
          simp only [h21, BigFrame.eval_const]
          simp [go_sem, wj]
          exact hK _ _ ⟨Below.refl _ _, rfl, trivial⟩
        · intro a W hE hb hs
          have h20 : a.eval (.tmp 20) = .slice (some ⟨ob, oo, none⟩) m d := hs 1 (by decide)
          have h22 : a.eval (.tmp 22) = .int .i64 (q : Int) := hs 3 (by decide)
          refine flow0 rfl ?_
          intro K hK
          unfold Oper.wp execOp
          simp only [h20, h22]
          simp [go_sem, q1]
          exact hK _ _ ⟨Below.refl _ _, rfl, trivial⟩
        · intro a W hE hb hs
          have h23 : a.eval (.tmp 23) = .pointer (some ⟨ob, oo + q, none⟩) := hs 4 (by decide)
          refine flow0 rfl ?_
          have c1 : W.cell? ⟨ob, oo + q, none⟩ = some (.int .i64 (p : Int)) := cell_ext hE cp
          intro K hK
          unfold Oper.wp execOp
          simp only [h23]
          simp [go_sem, c1]
          exact hK _ _ ⟨Below.refl _ _, rfl, trivial⟩
        · intro a W hE hb hs
          have h19 : a.eval (.tmp 19) = .slice (some ⟨bb, bo, none⟩) n c := hs 0 (by decide)
          have h24 : a.eval (.tmp 24) = .int .i64 (p : Int) := hs 5 (by decide)
          refine flow0 rfl ?_
          exact val_slice_lo _ _ _ rfl (some ⟨bb, bo, none⟩) n c p h19 h24 (run_sliceAt_bytes bb bo n c p hpn hnc W) ⟨rfl, trivial⟩
        · intro a W hE hb hs
          have h5 : a.eval (.tmp 5) = .pointer (some ⟨X5, 0, none⟩) := hb 5 (by decide)
          refine flow0 rfl ?_
          have c1 : W.cell? ⟨X5, 0, none⟩ = some (.slice B k e) := cell_ext hE c5
          intro K hK
          unfold Oper.wp execOp
          simp only [h5]
          simp [go_sem, c1]
          exact hK _ _ ⟨Below.refl _ _, rfl, trivial⟩
        · intro a W hE hb hs
          have h25 : a.eval (.tmp 25) = .slice (some ⟨bb, bo + p, none⟩) (n - p) (c - p) := hs 6 (by decide)
          have h26 : a.eval (.tmp 26) = .slice B k e := hs 7 (by decide)
          refine flow0 rfl ?_
          exact val_call 30 _ _ rfl (by kernel_rfl) [.slice (some ⟨bb, bo + p, none⟩) (n - p) (c - p), .slice B k e] (by show [a.eval (.tmp 25), a.eval (.tmp 26)] = _; rw [h25, h26]) ((Shared_any _ _ _ _ _ _ (xs.drop p) ys W (Hp.out.below (ext_below hE)) (Hyr.out.below (ext_below hE))).mono (by rw [HS.out]; rintro e W' ⟨rfl, hb⟩; exact ⟨_, rfl, hb, rfl, trivial⟩))
        · intro a W hE hb hs
          have h8 : a.eval (.tmp 8) = .pointer (some ⟨X8, 0, none⟩) := hb 8 (by decide)
          refine flow0 rfl ?_
          intro K hK
          unfold Oper.wp execOp
          simp only [h8]
          simp [go_sem]
          exact hK _ _ ⟨Below.refl _ _, rfl, trivial⟩
      intro f W hb hT hp hd
      have e27 : f 27 = .int .i64 (s : Int) := hT 8 (by decide)
      have e28 : f 28 = .pointer (some ⟨X8, 1, none⟩) := hT 9 (by decide)
      simp only [putV, List.foldl_cons, List.foldl_nil, Act.put, List.setIfInBounds_toArray, List.set_cons_succ, List.set_cons_zero]
      rw [e27, e28]
      have g8 := Hb8.out.below hb Hb8.out.lt
      have gc : W.cell? ⟨X8, 1, none⟩ = some (.int .i64 0) := by rw [g8.cell]; rfl
      have gf := g8.frozen 1
      have hE1 : Blk (W.setCell ⟨X8, 1, none⟩ (.int .i64 (s : Int))) X8 29 (fdV 0 ((s : Nat) : Int)).toArray := heap_setCell_same W X8 1 _ 29 (.int .i64 (s : Int)) g8
      have hE2 := ((KeptIn.refl (fun k => k < w3.heap.size ∧ k ≠ X8) w3).trans (KeptIn.of_below hb fun k hk => hk.1)).setAt (p := ⟨X8, 1, none⟩) (fun h => h.2 rfl) (.int .i64 (s : Int))
      have HE := Lib.hid (show Blk (W.setCell ⟨X8, 1, none⟩ (.int .i64 (s : Int))) X8 29 (fdV 0 ((if 0 < P then sharedL (xs.drop (l.getD (P - 1) 0)) ys else 0 : Nat) : Int)).toArray ∧ KeptIn (fun k => k < w3.heap.size ∧ k ≠ X8) w3 (W.setCell ⟨X8, 1, none⟩ (.int .i64 (s : Int))) from ⟨by rw [Hif.out]; exact hE1, hE2⟩)
      clear hb hT hp hd e27 e28 g8 hE1 HS cp dP dP2
      go_wp2_with fail
      go_meet
      exact HE.out
    · have dP : decide ((P : Int) > 0) = false := decide_eq_false (by omega)
      have dP2 : decide (0 < P) = false := decide_eq_false hP
      have hif : (if 0 < P then sharedL (xs.drop (l.getD (P - 1) 0)) ys else 0) = 0 := if_neg hP
      have HE := Lib.hid (show Blk w3 X8 29 (fdV 0 ((if 0 < P then sharedL (xs.drop (l.getD (P - 1) 0)) ys else 0 : Nat) : Int)).toArray ∧ _ from And.intro (by rw [hif]; exact Hb8.out) (KeptIn.refl (fun k => k < w3.heap.size ∧ k ≠ X8) w3))
      clear g3 g4 g5 g6 gB hif
      rw [dP2]
      go_wp2_with fail
      go_meet
      exact HE.out
  case' rest => skip
  obtain ⟨h8, hk4⟩ := hcut
  obtain ⟨w4, hw4⟩ : ∃ v, v = wc := ⟨_, rfl⟩
  subst hw4
  obtain ⟨L1, hL1⟩ : ∃ L1, L1 = if 0 < P then sharedL (xs.drop (l.getD (P - 1) 0)) ys else 0 := ⟨_, rfl⟩
  rw [← hL1] at h8
  have HL1 := Lib.hid hL1
  replace Hb8 := Lib.hid h8
  have Hk4 := Lib.hid hk4
  have c4w : w4.cell? ⟨X4, 0, none⟩ = some (.slice O m d) := by rw [(Hkeep.out w4 hk4).2.1.cell]; rfl
  clear h8 hk4 hL1
  go_upto_if 32 with fail
  go_cut [32] from 33 to 44 (fun _ wx => Blk wx X8 29 (fdV 0 ((lenOf xs ys l P m : Nat) : Int)).toArray ∧ KeptIn (fun k => k < w3.heap.size ∧ k ≠ X8) w3 wx)
  case first =>
    obtain ⟨g3, g4, g5, g6, gB⟩ := Hkeep.out w4 Hk4.out
    by_cases hP : P < m
    · obtain ⟨ob, oo, rfl, _⟩ := Ho.out.2.2 (by omega)
      obtain ⟨hpn, cp⟩ := ord_at (n := n) (Ho.out.below gB) Hlx.out hP
      obtain ⟨bb, bo, rfl, _⟩ := Hx.out.2.2 (by omega)
      have hlen : lenOf xs ys l P m = max L1 (sharedL (xs.drop (l.getD P 0)) ys) := by unfold lenOf; rw [if_pos hP, ← HL1.out]
      have Hlen := Lib.hid hlen
      obtain ⟨p, hp⟩ : ∃ p, p = l.getD P 0 := ⟨_, rfl⟩
      rw [← hp] at hpn cp
      obtain ⟨s, hs⟩ : ∃ s, s = sharedL (xs.drop p) ys := ⟨_, rfl⟩
      have Hsm := Lib.hid (show lenOf xs ys l P m = max L1 s by rw [hlen, hs, hp])
      have HS := Lib.hid hs.symm
      have Hp := Lib.hid (rd_drop (Hx.out.below gB) (show p ≤ n by omega))
      have Hyr := Lib.hid (Hy.out.below gB)
      have c3 : w4.cell? ⟨X3, 0, none⟩ = some (.slice (some ⟨bb, bo, none⟩) n c) := by rw [g3.cell]; rfl
      have c4 : w4.cell? ⟨X4, 0, none⟩ = some (.slice (some ⟨ob, oo, none⟩) m d) := by rw [g4.cell]; rfl
      have c5 : w4.cell? ⟨X5, 0, none⟩ = some (.slice B k e) := by rw [g5.cell]; rfl
      have c8 : w4.cell? ⟨X8, 1, none⟩ = some (.int .i64 (L1 : Int)) := by rw [Hb8.out.cell]; rfl
      have q1 : (P : Int) < (m : Int) := by omega
      have q0 : (0 : Int) ≤ (P : Int) := by omega
      have dP : decide ((P : Int) < (m : Int)) = true := decide_eq_true (by omega)
      have dP2 : decide (P < m) = true := decide_eq_true hP
      clear hs hP g3 g4 g5 g6 gB hlen hp Hlen
      rw [dP2]
      go_upto_region 6 with fail
      refine wp_region_flow_tail 12 [33, 34, 35, 36, 37, 38, 39, 40, 41, 42, 43, 44] [(Spec.is (.pointer (some ⟨X8, 1, none⟩)), false), (Spec.is (.int .i64 (L1 : Int)), false), (Spec.is (.slice (some ⟨bb, bo, none⟩) n c), false), (Spec.is (.slice (some ⟨ob, oo, none⟩) m d), false), (Spec.is (.int .i64 (P : Int)), false), (Spec.is (.pointer (some ⟨ob, oo + P, none⟩)), false), (Spec.is (.int .i64 (p : Int)), false), (Spec.is (.slice (some ⟨bb, bo + p, none⟩) (n - p) (c - p)), false), (Spec.is (.slice B k e), false), (Spec.is (.int .i64 (s : Int)), false), (Spec.is (.int .i64 (max (L1 : Int) (s : Int))), false), (Spec.is (.pointer (some ⟨X8, 1, none⟩)), false)] 97 (by kernel_rfl) (List.take_append_drop _ _) rfl (by kernel_rfl) (by kernel_rfl) (by kernel_rfl) (by decide) (by kernel_rfl) (by kernel_rfl) (fun _ _ d _ _ h => by cases d <;> exact h) rfl (by decide) rfl (by decide) (by kernel_rfl) ?_ ?_
      · refine ⟨?_, ?_, ?_, ?_, ?_, ?_, ?_, ?_, ?_, ?_, ?_, ?_, trivial⟩
        · intro a W hE hb hs
          have h8 : a.eval (.tmp 8) = .pointer (some ⟨X8, 0, none⟩) := hb 8 (by decide)
          refine flow0 rfl ?_
          intro K hK
          unfold Oper.wp execOp
          simp only [h8]
          simp [go_sem]
          exact hK _ _ ⟨Below.refl _ _, rfl, trivial⟩
        · intro a W hE hb hs
          have h33 : a.eval (.tmp 33) = .pointer (some ⟨X8, 1, none⟩) := hs 0 (by decide)
          refine flow0 rfl ?_
          have c1 : W.cell? ⟨X8, 1, none⟩ = some (.int .i64 (L1 : Int)) := cell_ext hE c8
          intro K hK
          unfold Oper.wp execOp
          simp only [h33]
          simp [go_sem, c1]
          exact hK _ _ ⟨Below.refl _ _, rfl, trivial⟩
        · intro a W hE hb hs
          have h3 : a.eval (.tmp 3) = .pointer (some ⟨X3, 0, none⟩) := hb 3 (by decide)
          refine flow0 rfl ?_
          have c1 : W.cell? ⟨X3, 0, none⟩ = some (.slice (some ⟨bb, bo, none⟩) n c) := cell_ext hE c3
          intro K hK
          unfold Oper.wp execOp
          simp only [h3]
          simp [go_sem, c1]
          exact hK _ _ ⟨Below.refl _ _, rfl, trivial⟩
        · intro a W hE hb hs
          have h4 : a.eval (.tmp 4) = .pointer (some ⟨X4, 0, none⟩) := hb 4 (by decide)
          refine flow0 rfl ?_
          have c1 : W.cell? ⟨X4, 0, none⟩ = some (.slice (some ⟨ob, oo, none⟩) m d) := cell_ext hE c4
          intro K hK
          unfold Oper.wp execOp
          simp only [h4]
          simp [go_sem, c1]
          exact hK _ _ ⟨Below.refl _ _, rfl, trivial⟩
        · intro a W hE hb hs
          have h7 : a.eval (.tmp 7) = .int .i64 (P : Int) := hb 7 (by decide)
          refine flow0 rfl ?_
          exact val_move _ rfl _ h7 ⟨rfl, trivial⟩
        · intro a W hE hb hs
          have h36 : a.eval (.tmp 36) = .slice (some ⟨ob, oo, none⟩) m d := hs 3 (by decide)
          have h37 : a.eval (.tmp 37) = .int .i64 (P : Int) := hs 4 (by decide)
          refine flow0 rfl ?_
          intro K hK
          unfold Oper.wp execOp
          simp only [h36, h37]
          simp [go_sem, q1]
          exact hK _ _ ⟨Below.refl _ _, rfl, trivial⟩
        · intro a W hE hb hs
          have h38 : a.eval (.tmp 38) = .pointer (some ⟨ob, oo + P, none⟩) := hs 5 (by decide)
          refine flow0 rfl ?_
          have c1 : W.cell? ⟨ob, oo + P, none⟩ = some (.int .i64 (p : Int)) := cell_ext hE cp
          intro K hK
          unfold Oper.wp execOp
          simp only [h38]
          simp [go_sem, c1]
          exact hK _ _ ⟨Below.refl _ _, rfl, trivial⟩
        · intro a W hE hb hs
          have h35 : a.eval (.tmp 35) = .slice (some ⟨bb, bo, none⟩) n c := hs 2 (by decide)
          have h39 : a.eval (.tmp 39) = .int .i64 (p : Int) := hs 6 (by decide)
          refine flow0 rfl ?_
          exact val_slice_lo _ _ _ rfl (some ⟨bb, bo, none⟩) n c p h35 h39 (run_sliceAt_bytes bb bo n c p hpn hnc W) ⟨rfl, trivial⟩
        · intro a W hE hb hs
          have h5 : a.eval (.tmp 5) = .pointer (some ⟨X5, 0, none⟩) := hb 5 (by decide)
          refine flow0 rfl ?_
          have c1 : W.cell? ⟨X5, 0, none⟩ = some (.slice B k e) := cell_ext hE c5
          intro K hK
          unfold Oper.wp execOp
          simp only [h5]
          simp [go_sem, c1]
          exact hK _ _ ⟨Below.refl _ _, rfl, trivial⟩
        · intro a W hE hb hs
          have h40 : a.eval (.tmp 40) = .slice (some ⟨bb, bo + p, none⟩) (n - p) (c - p) := hs 7 (by decide)
          have h41 : a.eval (.tmp 41) = .slice B k e := hs 8 (by decide)
          refine flow0 rfl ?_
          exact val_call 30 _ _ rfl (by kernel_rfl) [.slice (some ⟨bb, bo + p, none⟩) (n - p) (c - p), .slice B k e] (by show [a.eval (.tmp 40), a.eval (.tmp 41)] = _; rw [h40, h41]) ((Shared_any _ _ _ _ _ _ (xs.drop p) ys W (Hp.out.below (ext_below hE)) (Hyr.out.below (ext_below hE))).mono (by rw [HS.out]; rintro e W' ⟨rfl, hb⟩; exact ⟨_, rfl, hb, rfl, trivial⟩))
        · intro a W hE hb hs
          have h34 : a.eval (.tmp 34) = .int .i64 (L1 : Int) := hs 1 (by decide)
          have h42 : a.eval (.tmp 42) = .int .i64 (s : Int) := hs 9 (by decide)
          refine flow0 rfl ?_
          exact val_max _ _ _ rfl _ _ h34 h42 ⟨rfl, trivial⟩
        · intro a W hE hb hs
          have h8 : a.eval (.tmp 8) = .pointer (some ⟨X8, 0, none⟩) := hb 8 (by decide)
          refine flow0 rfl ?_
          intro K hK
          unfold Oper.wp execOp
          simp only [h8]
          simp [go_sem]
          exact hK _ _ ⟨Below.refl _ _, rfl, trivial⟩
      intro f W hb hT hp hd
      have e43 : f 43 = .int .i64 (max (L1 : Int) (s : Int)) := hT 10 (by decide)
      have e44 : f 44 = .pointer (some ⟨X8, 1, none⟩) := hT 11 (by decide)
      simp only [putV, List.foldl_cons, List.foldl_nil, Act.put, List.setIfInBounds_toArray, List.set_cons_succ, List.set_cons_zero]
      rw [e43, e44, show max (L1 : Int) (s : Int) = ((max L1 s : Nat) : Int) by omega]
      obtain ⟨L2, hL2⟩ : ∃ L2, L2 = max L1 s := ⟨_, rfl⟩
      rw [← hL2]
      have HL2 := Lib.hid (show lenOf xs ys l P m = L2 by rw [Hsm.out, hL2])
      clear hL2
      have g8 := Hb8.out.below hb Hb8.out.lt
      have gc : W.cell? ⟨X8, 1, none⟩ = some (.int .i64 (L1 : Int)) := by rw [g8.cell]; rfl
      have gf := g8.frozen 1
      have hE1 : Blk (W.setCell ⟨X8, 1, none⟩ (.int .i64 (L2 : Int))) X8 29 (fdV 0 (L2 : Int)).toArray := heap_setCell_same W X8 1 _ 29 (.int .i64 (L2 : Int)) g8
      have hE2 := (Hk4.out.trans (KeptIn.of_below hb fun k hk => by have := Hk4.out.size; omega)).setAt (p := ⟨X8, 1, none⟩) (fun h => h.2 rfl) (.int .i64 (L2 : Int))
      have HE := Lib.hid (show Blk (W.setCell ⟨X8, 1, none⟩ (.int .i64 (L2 : Int))) X8 29 (fdV 0 ((lenOf xs ys l P m : Nat) : Int)).toArray ∧ KeptIn (fun k => k < w3.heap.size ∧ k ≠ X8) w3 (W.setCell ⟨X8, 1, none⟩ (.int .i64 (L2 : Int))) from ⟨by rw [HL2.out]; exact hE1, hE2⟩)
      clear hb hT hp hd e43 e44 g8 hE1 hE2 HS cp dP dP2 c8
      go_wp2_with fail
      go_meet
      exact HE.out
    · have dP : decide ((P : Int) < (m : Int)) = false := decide_eq_false (by omega)
      have dP2 : decide (P < m) = false := decide_eq_false hP
      have hlen : lenOf xs ys l P m = L1 := by unfold lenOf; rw [if_neg hP, ← HL1.out]; omega
      have HE := Lib.hid (show Blk w4 X8 29 (fdV 0 ((lenOf xs ys l P m : Nat) : Int)).toArray ∧ _ from And.intro (by rw [hlen]; exact Hb8.out) Hk4.out)
      clear g3 g4 g5 g6 gB hlen
      rw [dP2]
      go_wp2_with fail
      go_meet
      exact HE.out
  case' rest => skip
  clear c4w
  obtain ⟨h8, hk5⟩ := hcut
  obtain ⟨w5, hw5⟩ : ∃ v, v = wc := ⟨_, rfl⟩
  subst hw5
  obtain ⟨L, hL⟩ : ∃ L, L = lenOf xs ys l P m := ⟨_, rfl⟩
  rw [← hL] at h8
  have hLk : L ≤ k := by rw [hL, ← Hyl.out]; exact lenOf_le _ _ _ _ _
  have HL := Lib.hid hL
  replace Hb8 := Lib.hid h8
  have Hk5 := Lib.hid hk5
  have c8 : w5.cell? ⟨X8, 1, none⟩ = some (.int .i64 (L : Int)) := by rw [h8.cell]; rfl
  clear h8 hk5 hL HL1 Hk4
  obtain ⟨g3, g4, g5, g6, gB⟩ := Hkeep.out w5 Hk5.out
  have G6 := Lib.hid g6
  have GB := Lib.hid gB
  clear g3 g4 g5 g6 gB
  by_cases hL0 : L = 0
  · have hfd := St.none (P := P) Hord.out (by rw [Hol.out]; exact hPm) Hlo.out (by rw [Hol.out]; exact Hhi.out) (by rw [Hol.out, ← HL.out]; exact hL0)
    have HFd := Lib.hid hfd
    have hd0 : ((L : Int) == 0) = true := by rw [hL0]; rfl
    have hd1 : (L == 0) = true := by rw [hL0]; rfl
    have hd2 : decide ((L : Int) = 0) = true := decide_eq_true (by omega)
    have Hr := Lib.hid (Blk.range (cs := fdV 0 0) (by have := Hb8.out; rw [hL0] at this; exact this))
    clear hL0 hfd
    go_wp2_with (first | (refine wpList_load_mid rfl 29 (.tmp 8) rfl X8 0 rfl (fdV 0 0) d29 Hr.out hd29 hrow29 (by kernel_rfl) ?_) | (refine wpList_store_row rfl 29 (.tmp 6) (.tmp 48) rfl X6 (fdV 0 0).toArray rfl rfl 29 _ G6.out (size29 _ rfl) rfl (fd_one _ _) ?_))
    refine bodyPost_ret (results_cell_row rfl _ _ X6 29 _ (0, 0) _ rfl (setRow_heap _ _ _ _ _ _ G6.out) hd29 (by cases d29 <;> first | rfl | exact hrow29) (size29 _ rfl)) rfl ⟨⟨0, 0, rfl, HFd.out⟩, Below.setRow GB.out (by have := Hq.out; omega) _⟩
  · have hm0 : 0 < m := by
      refine Nat.pos_of_ne_zero fun q => hL0 ?_
      rw [HL.out]
      unfold lenOf
      rw [if_neg (by omega), if_neg (by omega)]; rfl
    obtain ⟨ob, oo, rfl, _⟩ := Ho.out.2.2 hm0
    obtain ⟨bb, bo, rfl, _⟩ := Hx.out.2.2 (by have := Hmn.out; omega)
    have hd0 : ((L : Int) == 0) = false := by rw [beq_eq_false_iff_ne]; omega
    have hd1 : (L == 0) = false := by rw [beq_eq_false_iff_ne]; omega
    have hd2 : decide ((L : Int) = 0) = false := decide_eq_false (by omega)
    have hsl := run_bytes_to B k e L (by omega)
    obtain ⟨g3, g4, g5, g6, gB⟩ := Hkeep.out w5 Hk5.out
    have c5 : w5.cell? ⟨X5, 0, none⟩ = some (.slice B k e) := by rw [g5.cell]; rfl
    have c3 : w5.cell? ⟨X3, 0, none⟩ = some (.slice (some ⟨bb, bo, none⟩) n c) := by rw [g3.cell]; rfl
    have c80 : w5.cell? ⟨X8, 0, none⟩ = some (.int .i64 0) := by rw [Hb8.out.cell]; rfl
    have f80 := Hb8.out.frozen 0
    have H0 := Lib.hid (show 0 < L by omega)
    clear g3 g4 g5 g6 gB hL0
    go_upto_region 11 with fail
    obtain ⟨w7, hw7⟩ : ∃ v, v = w5.setCell ⟨X8, 0, none⟩ (.int .i64 (n : Int)) := ⟨_, rfl⟩
    have h87 : Blk w7 X8 29 (fdV (n : Int) (L : Int)).toArray := by rw [hw7]; exact heap_setCell_same w5 X8 0 _ 29 (.int .i64 (n : Int)) Hb8.out
    have hk7 : KeptIn (fun k => k < w3.heap.size ∧ k ≠ X8) w3 w7 := by rw [hw7]; exact Hk5.out.setAt (p := ⟨X8, 0, none⟩) (fun h => h.2 rfl) (.int .i64 (n : Int))
    rw [← hw7]
    clear hw7 c80 f80 c5 c3 c8 hsl hd0 hd1 hd2
    replace Hb8 := Lib.hid h87
    have Hk7 := Lib.hid hk7
    clear h87 hk7 Hk5 G6 GB
    go_wp2_with fail
    obtain ⟨w9, hw9⟩ : ∃ v, v = w7.alloc (.cells #[.int .i64 (-1), .int .i64 1] 3) := ⟨_, rfl⟩
    obtain ⟨XL, hXL⟩ : ∃ v, v = w7.heap.size := ⟨_, rfl⟩
    have hbL : Blk w9 XL 3 #[.int .i64 (-1), .int .i64 1] := by rw [hw9]; exact blk_newB hXL
    have hB9 : Below w7.heap.size w7 w9 := by rw [hw9]; exact (Below.refl _ _).alloc (Nat.le_refl _) _
    rw [← hw9, ← hXL]
    have hk9 := Hk7.out.trans (KeptIn.of_below hB9 (S := fun k => k < w3.heap.size ∧ k ≠ X8) fun k hk => by have := Hk7.out.size; omega)
    have Hkeep9 := Lib.hid (show ∀ W, KeptIn (fun k => k < w9.heap.size ∧ k ≠ X8) w9 W → Blk W X3 22 #[.slice (some ⟨bb, bo, none⟩) n c] ∧ Blk W X4 25 #[.slice (some ⟨ob, oo, none⟩) m d] ∧ Blk W X5 22 #[.slice B k e] ∧ Blk W X6 29 (fdV 0 0).toArray ∧ Below w.heap.size w W from fun W hk => Hkeep.out W (hk9.trans (hk.mono fun q hq => ⟨by have := hk9.size; omega, hq.2⟩)))
    replace Hb8 := Lib.hid (Hb8.out.below hB9 Hb8.out.lt)
    have HbL := Lib.hid hbL
    have HXL := Lib.hid (show XL ≠ X8 from Blk.ne hbL Hb8.out (by decide))
    clear hw9 hXL hbL hB9 hk9 Hk7
    go_loopw [11, 12, 58] (fun _ _ v58 wr => ∃ j a : Nat, v58 = .int .i64 (j : Int) ∧ j ≤ 2 ∧ St xs ys l L n m P j a ∧ Blk wr X8 29 (fdV (a : Int) (L : Int)).toArray ∧ KeptIn (fun k => k < w9.heap.size ∧ k ≠ X8) w9 wr) (fun _ _ v58 _ => 2 - (intOf v58).toNat)
    case atStart => exact ⟨0, n, rfl, by omega, .inl ⟨rfl, rfl⟩, Hb8.out, KeptIn.refl _ _⟩
    case round =>
      obtain ⟨j, av, rfl, hj2, hst, h8, hk⟩ := hrel
      have HSt := Lib.hid hst
      have H8 := Lib.hid h8
      have Hk := Lib.hid hk
      have hbLr := HbL.out.keptIn hk ⟨HbL.out.lt, HXL.out⟩
      clear hst h8 hk Hb8
      by_cases hj : j < 2
      · have d0 : decide ((j : Int) < 2) = true := decide_eq_true (by omega)
        have d0n : decide (j < 2) = true := decide_eq_true hj
        have j1 : (j : Int) < 2 := by omega
        have j0 : (0 : Int) ≤ (j : Int) := by omega
        obtain ⟨jj, hjj⟩ : ∃ jj, jj = j := ⟨_, rfl⟩
        subst hjj
        by_cases hz : jj = 0
        · have ha : av = n := by
            rcases HSt.out with ⟨_, h⟩ | ⟨h, _⟩ | ⟨h, _⟩
            · exact h
            · omega
            · omega
          have cb : wr.cell? ⟨XL, jj, none⟩ = some (.int .i64 (-1)) := by rw [hbLr.cell, hz]; rfl
          have Hz := Lib.hid hz
          have wP : IntKind.i64.wrap ((P : Int) - 1) = (P : Int) - 1 := by simp [IntKind.wrap, IntKind.bits, IntKind.signed]; omega
          clear hz hbLr HSt
          have Ha := Lib.hid ha
          clear ha
          obtain ⟨wo, hwo⟩ : ∃ v, v = wr := ⟨_, rfl⟩
          subst hwo
          go_wp2_with fail
          go_step3
          go_wp2_with fail
          go_step3
          go_wp2_with fail
          go_loopw [12] (fun v12 wr => ∃ (lo a : Nat) (iv : Int), v12 = .int .i64 iv ∧ iv = (lo : Int) - 1 ∧ lo ≤ P ∧ Sc xs ys l L n lo P a ∧ Blk wr X8 29 (fdV (a : Int) (L : Int)).toArray ∧ KeptIn (fun k => k < w9.heap.size ∧ k ≠ X8) w9 wr) (fun v12 _ => (intOf v12 + 1).toNat)
          case atStart => exact ⟨P, av, (P : Int) - 1, by go_num, rfl, Nat.le_refl _, by rw [Ha.out]; exact Sc.start _ _ _ _ _ _, H8.out, Hk.out⟩
          case round =>
            clear Ha H8 Hk
            obtain ⟨lo, av, iv, rfl, hiv, hlP, hsc, h8, hk⟩ := hrel
            have HScan := Lib.hid hsc
            have H8 := Lib.hid h8
            have Hk := Lib.hid hk
            clear hsc h8 hk
            rcases lo with _ | q
            · have hn1 : decide (iv ≥ 0) = false := decide_eq_false (by omega)
              have hn2 : decide (0 ≤ iv) = false := decide_eq_false (by omega)
              go_wp2_with fail
              rw [Exit.noGoto_normal]
              go_wp2_with fail
              exact ⟨⟨jj + 1, av, by go_num, by have := Hz.out; omega, .inr (.inl ⟨by have := Hz.out; omega, 0, by omega, HScan.out, .inl rfl⟩), H8.out, Hk.out⟩, by simp [intOf]; omega⟩
            · have e : iv = (q : Int) := by omega
              subst e
              clear hiv
              have hqm : q < m := by omega
              obtain ⟨g3, g4, g5, g6, gB⟩ := Hkeep9.out wr Hk.out
              obtain ⟨hpn, cp⟩ := ord_at (n := n) (Ho.out.below gB) Hlx.out hqm
              obtain ⟨p, hp⟩ : ∃ p, p = l.getD q 0 := ⟨_, rfl⟩
              rw [← hp] at hpn cp
              have HPe := Lib.hid hp
              have hgp := good_prefix (xs := xs) (ys := ys) (l := l) (L := L) (t := q) (by rw [Hyl.out]; exact hLk)
              rw [← hp] at hgp
              obtain ⟨G, hG⟩ : ∃ G, G = decide (sharedL (xs.drop p) (ys.take L) = (ys.take L).length) := ⟨_, rfl⟩
              rw [← hG] at hgp
              have HG := Lib.hid hG.symm
              have HGp := Lib.hid hgp
              have Hp := Lib.hid (rd_drop (Hx.out.below gB) (show p ≤ n by omega))
              have HT := Lib.hid (rd_take1 (Hy.out.below gB) hLk)
              have c3 : wr.cell? ⟨X3, 0, none⟩ = some (.slice (some ⟨bb, bo, none⟩) n c) := by rw [g3.cell]; rfl
              have c4 : wr.cell? ⟨X4, 0, none⟩ = some (.slice (some ⟨ob, oo, none⟩) m d) := by rw [g4.cell]; rfl
              have q1 : (q : Int) < (m : Int) := by omega
              have q0 : (0 : Int) ≤ (q : Int) := by omega
              have q2 : decide ((q : Int) ≥ 0) = true := decide_eq_true q0
              have q3 : decide ((q : Int) < (m : Int)) = true := decide_eq_true q1
              have q4 : decide (q < m) = true := decide_eq_true hqm
              clear hp hG hgp g3 g4 g5 g6 gB
              go_upto_region 19 with fail
              refine wp_region_flowF [78, 79, 80, 81, 82, 83, 84, 85, 86] [(Spec.is (.slice (some ⟨bb, bo, none⟩) n c), false), (Spec.is (.slice (some ⟨ob, oo, none⟩) m d), false), (Spec.is (.int .i64 (q : Int)), false), (Spec.is (.pointer (some ⟨ob, oo + q, none⟩)), false), (Spec.is (.int .i64 (p : Int)), false), (Spec.is (.slice (some ⟨bb, bo + p, none⟩) (n - p) (c - p)), false), (Spec.is (.slice B L e), false), (Spec.is (.bool G), false), (Spec.is (.bool (!G)), false)] 97 (by kernel_rfl) rfl (by decide) rfl (by decide) (by kernel_rfl) ?_ ?_
              · refine ⟨?_, ?_, ?_, ?_, ?_, ?_, ?_, ?_, ?_, trivial⟩
                · intro a W hE hb hs
                  have h3 : a.eval (.tmp 3) = .pointer (some ⟨X3, 0, none⟩) := hb 3 (by decide)
                  refine flow0 rfl ?_
                  have c1 : W.cell? ⟨X3, 0, none⟩ = some (.slice (some ⟨bb, bo, none⟩) n c) := cell_ext hE c3
                  intro K hK
                  unfold Oper.wp execOp
                  simp only [h3]
                  simp [go_sem, c1]
                  exact hK _ _ ⟨Below.refl _ _, rfl, trivial⟩
                · intro a W hE hb hs
                  have h4 : a.eval (.tmp 4) = .pointer (some ⟨X4, 0, none⟩) := hb 4 (by decide)
                  refine flow0 rfl ?_
                  have c1 : W.cell? ⟨X4, 0, none⟩ = some (.slice (some ⟨ob, oo, none⟩) m d) := cell_ext hE c4
                  intro K hK
                  unfold Oper.wp execOp
                  simp only [h4]
                  simp [go_sem, c1]
                  exact hK _ _ ⟨Below.refl _ _, rfl, trivial⟩
                · intro a W hE hb hs
                  have h12 : a.eval (.tmp 12) = .int .i64 (q : Int) := hb 12 (by decide)
                  refine flow0 rfl ?_
                  exact val_move _ rfl _ h12 ⟨rfl, trivial⟩
                · intro a W hE hb hs
                  have h79 : a.eval (.tmp 79) = .slice (some ⟨ob, oo, none⟩) m d := hs 1 (by decide)
                  have h80 : a.eval (.tmp 80) = .int .i64 (q : Int) := hs 2 (by decide)
                  refine flow0 rfl ?_
                  intro K hK
                  unfold Oper.wp execOp
                  simp only [h79, h80]
                  simp [go_sem, q1]
                  exact hK _ _ ⟨Below.refl _ _, rfl, trivial⟩
                · intro a W hE hb hs
                  have h81 : a.eval (.tmp 81) = .pointer (some ⟨ob, oo + q, none⟩) := hs 3 (by decide)
                  refine flow0 rfl ?_
                  have c1 : W.cell? ⟨ob, oo + q, none⟩ = some (.int .i64 (p : Int)) := cell_ext hE cp
                  intro K hK
                  unfold Oper.wp execOp
                  simp only [h81]
                  simp [go_sem, c1]
                  exact hK _ _ ⟨Below.refl _ _, rfl, trivial⟩
                · intro a W hE hb hs
                  have h78 : a.eval (.tmp 78) = .slice (some ⟨bb, bo, none⟩) n c := hs 0 (by decide)
                  have h82 : a.eval (.tmp 82) = .int .i64 (p : Int) := hs 4 (by decide)
                  refine flow0 rfl ?_
                  exact val_slice_lo _ _ _ rfl (some ⟨bb, bo, none⟩) n c p h78 h82 (run_sliceAt_bytes bb bo n c p hpn hnc W) ⟨rfl, trivial⟩
                · intro a W hE hb hs
                  have h9 : a.eval (.tmp 9) = .slice B L e := hb 9 (by decide)
                  refine flow0 rfl ?_
                  exact val_move _ rfl _ h9 ⟨rfl, trivial⟩
                · intro a W hE hb hs
                  have h83 : a.eval (.tmp 83) = .slice (some ⟨bb, bo + p, none⟩) (n - p) (c - p) := hs 5 (by decide)
                  have h84 : a.eval (.tmp 84) = .slice B L e := hs 6 (by decide)
                  refine flow0 rfl ?_
                  exact val_call 31 _ _ rfl (by kernel_rfl) [.slice (some ⟨bb, bo + p, none⟩) (n - p) (c - p), .slice B L e] (by show [a.eval (.tmp 83), a.eval (.tmp 84)] = _; rw [h83, h84]) ((BPrefix_any _ _ _ _ _ _ (xs.drop p) (ys.take L) W (Hp.out.below (ext_below hE)) (HT.out.below (ext_below hE)) (by omega)).mono (by rw [HG.out]; rintro e W' ⟨rfl, rfl⟩; exact ⟨_, rfl, Below.refl _ _, rfl, trivial⟩))
                · intro a W hE hb hs
                  have h85 : a.eval (.tmp 85) = .bool G := hs 7 (by decide)
                  refine flow0 rfl ?_
                  exact val_not _ _ rfl _ h85 ⟨rfl, trivial⟩
              intro f W hb hT hp hd
              have e86 : f 86 = .bool (!G) := hT 8 (by decide)
              simp only [putV, List.foldl_cons, List.foldl_nil, Act.put, List.setIfInBounds_toArray, List.set_cons_succ, List.set_cons_zero, Exit.then]
              rw [e86]
              have HbW := Lib.hid hb
              have g8 := H8.out.below hb H8.out.lt
              have HW8 := Lib.hid g8
              have HkW := Lib.hid (Hk.out.trans (KeptIn.of_below hb fun k hk => by have := Hk.out.size; omega))
              clear hT hp hd e86 HG Hp HT
              cases G with
              | false =>
                have hng : ¬ Good xs ys l L q := fun g => by have := HGp.out.2 g; cases this
                have HEnd := Lib.hid hng
                clear hng HGp hb g8 c3 c4 cp
                go_wp2_with fail
                rw [Exit.noGoto_normal]
                go_wp2_with fail
                exact ⟨⟨jj + 1, av, by go_num, by have := Hz.out; omega, .inr (.inl ⟨by have := Hz.out; omega, q + 1, by omega, HScan.out, .inr HEnd.out⟩), HW8.out, HkW.out⟩, by simp [intOf]; omega⟩
              | true =>
                have hg := HGp.out.1 rfl
                have HSc := Lib.hid (HScan.out.left (by omega) hg (by rw [← HPe.out]; exact hpn))
                rw [← HPe.out] at HSc
                have c8 : W.cell? ⟨X8, 0, none⟩ = some (.int .i64 (av : Int)) := by rw [g8.cell]; rfl
                replace c4 := cell_below hb c4
                replace cp := cell_below hb cp
                clear HGp hg hb c3
                go_upto_region 20 with fail
                refine wp_region_flow_tail 8 [87, 88, 89, 90, 91, 92, 93, 94] [(Spec.is (.pointer (some ⟨X8, 0, none⟩)), false), (Spec.is (.int .i64 (av : Int)), false), (Spec.is (.slice (some ⟨ob, oo, none⟩) m d), false), (Spec.is (.int .i64 (q : Int)), false), (Spec.is (.pointer (some ⟨ob, oo + q, none⟩)), false), (Spec.is (.int .i64 (p : Int)), false), (Spec.is (.int .i64 (min (av : Int) (p : Int))), false), (Spec.is (.pointer (some ⟨X8, 0, none⟩)), false)] 97 (by kernel_rfl) (List.take_append_drop _ _) rfl (by kernel_rfl) (by kernel_rfl) (by kernel_rfl) (by decide) (by kernel_rfl) (by kernel_rfl) (fun _ _ d _ _ h => by cases d <;> exact h) rfl (by decide) rfl (by decide) (by kernel_rfl) ?_ ?_
                · refine ⟨?_, ?_, ?_, ?_, ?_, ?_, ?_, ?_, trivial⟩
                  · intro a W hE hb hs
                    have h8 : a.eval (.tmp 8) = .pointer (some ⟨X8, 0, none⟩) := hb 8 (by decide)
                    refine flow0 rfl ?_
                    intro K hK
                    unfold Oper.wp execOp
                    simp only [h8]
                    simp [go_sem]
                    exact hK _ _ ⟨Below.refl _ _, rfl, trivial⟩
                  · intro a W hE hb hs
                    have h87 : a.eval (.tmp 87) = .pointer (some ⟨X8, 0, none⟩) := hs 0 (by decide)
                    refine flow0 rfl ?_
                    have c1 : W.cell? ⟨X8, 0, none⟩ = some (.int .i64 (av : Int)) := cell_ext hE c8
                    intro K hK
                    unfold Oper.wp execOp
                    simp only [h87]
                    simp [go_sem, c1]
                    exact hK _ _ ⟨Below.refl _ _, rfl, trivial⟩
                  · intro a W hE hb hs
                    have h4 : a.eval (.tmp 4) = .pointer (some ⟨X4, 0, none⟩) := hb 4 (by decide)
                    refine flow0 rfl ?_
                    have c1 : W.cell? ⟨X4, 0, none⟩ = some (.slice (some ⟨ob, oo, none⟩) m d) := cell_ext hE c4
                    intro K hK
                    unfold Oper.wp execOp
                    simp only [h4]
                    simp [go_sem, c1]
                    exact hK _ _ ⟨Below.refl _ _, rfl, trivial⟩
                  · intro a W hE hb hs
                    have h12 : a.eval (.tmp 12) = .int .i64 (q : Int) := hb 12 (by decide)
                    refine flow0 rfl ?_
                    exact val_move _ rfl _ h12 ⟨rfl, trivial⟩
                  · intro a W hE hb hs
                    have h89 : a.eval (.tmp 89) = .slice (some ⟨ob, oo, none⟩) m d := hs 2 (by decide)
                    have h90 : a.eval (.tmp 90) = .int .i64 (q : Int) := hs 3 (by decide)
                    refine flow0 rfl ?_
                    intro K hK
                    unfold Oper.wp execOp
                    simp only [h89, h90]
                    simp [go_sem, q1]
                    exact hK _ _ ⟨Below.refl _ _, rfl, trivial⟩
                  · intro a W hE hb hs
                    have h91 : a.eval (.tmp 91) = .pointer (some ⟨ob, oo + q, none⟩) := hs 4 (by decide)
                    refine flow0 rfl ?_
                    have c1 : W.cell? ⟨ob, oo + q, none⟩ = some (.int .i64 (p : Int)) := cell_ext hE cp
                    intro K hK
                    unfold Oper.wp execOp
                    simp only [h91]
                    simp [go_sem, c1]
                    exact hK _ _ ⟨Below.refl _ _, rfl, trivial⟩
                  · intro a W hE hb hs
                    have h88 : a.eval (.tmp 88) = .int .i64 (av : Int) := hs 1 (by decide)
                    have h92 : a.eval (.tmp 92) = .int .i64 (p : Int) := hs 5 (by decide)
                    refine flow0 rfl ?_
                    exact val_min _ _ _ rfl _ _ h88 h92 ⟨rfl, trivial⟩
                  · intro a W hE hb hs
                    have h8 : a.eval (.tmp 8) = .pointer (some ⟨X8, 0, none⟩) := hb 8 (by decide)
                    refine flow0 rfl ?_
                    intro K hK
                    unfold Oper.wp execOp
                    simp only [h8]
                    simp [go_sem]
                    exact hK _ _ ⟨Below.refl _ _, rfl, trivial⟩
                intro f2 W2 hb hT hp hd
                have e93 : f2 93 = .int .i64 (min (av : Int) (p : Int)) := hT 6 (by decide)
                have e94 : f2 94 = .pointer (some ⟨X8, 0, none⟩) := hT 7 (by decide)
                simp only [putV, List.foldl_cons, List.foldl_nil, Act.put, List.setIfInBounds_toArray, List.set_cons_succ, List.set_cons_zero]
                rw [e93, e94, show min (av : Int) (p : Int) = ((min av p : Nat) : Int) by omega]
                generalize min av p = a2 at *
                have g82 := g8.below hb g8.lt
                have gc : W2.cell? ⟨X8, 0, none⟩ = some (.int .i64 (av : Int)) := by rw [g82.cell]; rfl
                have gf := g82.frozen 0
                have hE1 : Blk (W2.setCell ⟨X8, 0, none⟩ (.int .i64 (a2 : Int))) X8 29 (fdV (a2 : Int) (L : Int)).toArray := heap_setCell_same W2 X8 0 _ 29 (.int .i64 (a2 : Int)) g82
                have hE2 := (HkW.out.trans (KeptIn.of_below hb fun k hk => by have := HkW.out.size; omega)).setAt (p := ⟨X8, 0, none⟩) (fun h => h.2 rfl) (.int .i64 (a2 : Int))
                have HE := Lib.hid (And.intro hE1 hE2)
                have ws : IntKind.i64.wrap ((q : Int) + -1) = (q : Int) - 1 := by simp [IntKind.wrap, IntKind.bits, IntKind.signed]; omega
                clear hb hT hp hd e93 e94 g8 g82 hE1 hE2 cp c4 c8 HW8 HkW HbW
                go_wp2_with fail
                exact ⟨⟨q, a2, (q : Int) - 1, by go_num, by omega, by omega, HSc.out, HE.out⟩, by simp [intOf] <;> omega⟩
        · have hz1 : jj = 1 := by omega
          obtain ⟨lo, hlP, hsc0, hlo0⟩ : ∃ lo, lo ≤ P ∧ Sc xs ys l L n lo P av ∧ (lo = 0 ∨ ¬ Good xs ys l L (lo - 1)) := by
            rcases HSt.out with ⟨h, _⟩ | ⟨_, h⟩ | ⟨h, _⟩
            · omega
            · exact h
            · omega
          have HLo := Lib.hid (And.intro hlP hlo0)
          have cb : wr.cell? ⟨XL, jj, none⟩ = some (.int .i64 1) := by rw [hbLr.cell, hz1]; rfl
          have Hz := Lib.hid hz1
          have HSc0 := Lib.hid hsc0
          clear hz hz1 hbLr HSt hlP hsc0 hlo0
          obtain ⟨wo, hwo⟩ : ∃ v, v = wr := ⟨_, rfl⟩
          subst hwo
          go_wp2_with fail
          go_step3
          go_wp2_with fail
          go_step3
          go_wp2_with fail
          go_loopw [12] (fun v12 wr => ∃ (hi a : Nat), v12 = .int .i64 (hi : Int) ∧ P ≤ hi ∧ hi ≤ m ∧ Sc xs ys l L n lo hi a ∧ Blk wr X8 29 (fdV (a : Int) (L : Int)).toArray ∧ KeptIn (fun k => k < w9.heap.size ∧ k ≠ X8) w9 wr) (fun v12 _ => m - (intOf v12).toNat)
          case atStart => exact ⟨P, av, rfl, Nat.le_refl _, hPm, HSc0.out, H8.out, Hk.out⟩
          case round =>
            clear HSc0 H8 Hk
            obtain ⟨q, av, rfl, hPq, hqm', hsc, h8, hk⟩ := hrel
            have HScan := Lib.hid hsc
            have H8 := Lib.hid h8
            have Hk := Lib.hid hk
            have hlq : lo ≤ q := by have := HLo.out.1; omega
            clear hsc h8 hk
            by_cases hqm : q < m
            · skip
              obtain ⟨g3, g4, g5, g6, gB⟩ := Hkeep9.out wr Hk.out
              obtain ⟨hpn, cp⟩ := ord_at (n := n) (Ho.out.below gB) Hlx.out hqm
              obtain ⟨p, hp⟩ : ∃ p, p = l.getD q 0 := ⟨_, rfl⟩
              rw [← hp] at hpn cp
              have HPe := Lib.hid hp
              have hgp := good_prefix (xs := xs) (ys := ys) (l := l) (L := L) (t := q) (by rw [Hyl.out]; exact hLk)
              rw [← hp] at hgp
              obtain ⟨G, hG⟩ : ∃ G, G = decide (sharedL (xs.drop p) (ys.take L) = (ys.take L).length) := ⟨_, rfl⟩
              rw [← hG] at hgp
              have HG := Lib.hid hG.symm
              have HGp := Lib.hid hgp
              have Hp := Lib.hid (rd_drop (Hx.out.below gB) (show p ≤ n by omega))
              have HT := Lib.hid (rd_take1 (Hy.out.below gB) hLk)
              have c3 : wr.cell? ⟨X3, 0, none⟩ = some (.slice (some ⟨bb, bo, none⟩) n c) := by rw [g3.cell]; rfl
              have c4 : wr.cell? ⟨X4, 0, none⟩ = some (.slice (some ⟨ob, oo, none⟩) m d) := by rw [g4.cell]; rfl
              have q1 : (q : Int) < (m : Int) := by omega
              have q0 : (0 : Int) ≤ (q : Int) := by omega
              have q2 : decide ((q : Int) ≥ 0) = true := decide_eq_true q0
              have q3 : decide ((q : Int) < (m : Int)) = true := decide_eq_true q1
              have q4 : decide (q < m) = true := decide_eq_true hqm
              clear hp hG hgp g3 g4 g5 g6 gB
              go_upto_region 19 with fail
              refine wp_region_flowF [78, 79, 80, 81, 82, 83, 84, 85, 86] [(Spec.is (.slice (some ⟨bb, bo, none⟩) n c), false), (Spec.is (.slice (some ⟨ob, oo, none⟩) m d), false), (Spec.is (.int .i64 (q : Int)), false), (Spec.is (.pointer (some ⟨ob, oo + q, none⟩)), false), (Spec.is (.int .i64 (p : Int)), false), (Spec.is (.slice (some ⟨bb, bo + p, none⟩) (n - p) (c - p)), false), (Spec.is (.slice B L e), false), (Spec.is (.bool G), false), (Spec.is (.bool (!G)), false)] 97 (by kernel_rfl) rfl (by decide) rfl (by decide) (by kernel_rfl) ?_ ?_
              · refine ⟨?_, ?_, ?_, ?_, ?_, ?_, ?_, ?_, ?_, trivial⟩
                · intro a W hE hb hs
                  have h3 : a.eval (.tmp 3) = .pointer (some ⟨X3, 0, none⟩) := hb 3 (by decide)
                  refine flow0 rfl ?_
                  have c1 : W.cell? ⟨X3, 0, none⟩ = some (.slice (some ⟨bb, bo, none⟩) n c) := cell_ext hE c3
                  intro K hK
                  unfold Oper.wp execOp
                  simp only [h3]
                  simp [go_sem, c1]
                  exact hK _ _ ⟨Below.refl _ _, rfl, trivial⟩
                · intro a W hE hb hs
                  have h4 : a.eval (.tmp 4) = .pointer (some ⟨X4, 0, none⟩) := hb 4 (by decide)
                  refine flow0 rfl ?_
                  have c1 : W.cell? ⟨X4, 0, none⟩ = some (.slice (some ⟨ob, oo, none⟩) m d) := cell_ext hE c4
                  intro K hK
                  unfold Oper.wp execOp
                  simp only [h4]
                  simp [go_sem, c1]
                  exact hK _ _ ⟨Below.refl _ _, rfl, trivial⟩
                · intro a W hE hb hs
                  have h12 : a.eval (.tmp 12) = .int .i64 (q : Int) := hb 12 (by decide)
                  refine flow0 rfl ?_
                  exact val_move _ rfl _ h12 ⟨rfl, trivial⟩
                · intro a W hE hb hs
                  have h79 : a.eval (.tmp 79) = .slice (some ⟨ob, oo, none⟩) m d := hs 1 (by decide)
                  have h80 : a.eval (.tmp 80) = .int .i64 (q : Int) := hs 2 (by decide)
                  refine flow0 rfl ?_
                  intro K hK
                  unfold Oper.wp execOp
                  simp only [h79, h80]
                  simp [go_sem, q1]
                  exact hK _ _ ⟨Below.refl _ _, rfl, trivial⟩
                · intro a W hE hb hs
                  have h81 : a.eval (.tmp 81) = .pointer (some ⟨ob, oo + q, none⟩) := hs 3 (by decide)
                  refine flow0 rfl ?_
                  have c1 : W.cell? ⟨ob, oo + q, none⟩ = some (.int .i64 (p : Int)) := cell_ext hE cp
                  intro K hK
                  unfold Oper.wp execOp
                  simp only [h81]
                  simp [go_sem, c1]
                  exact hK _ _ ⟨Below.refl _ _, rfl, trivial⟩
                · intro a W hE hb hs
                  have h78 : a.eval (.tmp 78) = .slice (some ⟨bb, bo, none⟩) n c := hs 0 (by decide)
                  have h82 : a.eval (.tmp 82) = .int .i64 (p : Int) := hs 4 (by decide)
                  refine flow0 rfl ?_
                  exact val_slice_lo _ _ _ rfl (some ⟨bb, bo, none⟩) n c p h78 h82 (run_sliceAt_bytes bb bo n c p hpn hnc W) ⟨rfl, trivial⟩
                · intro a W hE hb hs
                  have h9 : a.eval (.tmp 9) = .slice B L e := hb 9 (by decide)
                  refine flow0 rfl ?_
                  exact val_move _ rfl _ h9 ⟨rfl, trivial⟩
                · intro a W hE hb hs
                  have h83 : a.eval (.tmp 83) = .slice (some ⟨bb, bo + p, none⟩) (n - p) (c - p) := hs 5 (by decide)
                  have h84 : a.eval (.tmp 84) = .slice B L e := hs 6 (by decide)
                  refine flow0 rfl ?_
                  exact val_call 31 _ _ rfl (by kernel_rfl) [.slice (some ⟨bb, bo + p, none⟩) (n - p) (c - p), .slice B L e] (by show [a.eval (.tmp 83), a.eval (.tmp 84)] = _; rw [h83, h84]) ((BPrefix_any _ _ _ _ _ _ (xs.drop p) (ys.take L) W (Hp.out.below (ext_below hE)) (HT.out.below (ext_below hE)) (by omega)).mono (by rw [HG.out]; rintro e W' ⟨rfl, rfl⟩; exact ⟨_, rfl, Below.refl _ _, rfl, trivial⟩))
                · intro a W hE hb hs
                  have h85 : a.eval (.tmp 85) = .bool G := hs 7 (by decide)
                  refine flow0 rfl ?_
                  exact val_not _ _ rfl _ h85 ⟨rfl, trivial⟩
              intro f W hb hT hp hd
              have e86 : f 86 = .bool (!G) := hT 8 (by decide)
              simp only [putV, List.foldl_cons, List.foldl_nil, Act.put, List.setIfInBounds_toArray, List.set_cons_succ, List.set_cons_zero, Exit.then]
              rw [e86]
              have HbW := Lib.hid hb
              have g8 := H8.out.below hb H8.out.lt
              have HW8 := Lib.hid g8
              have HkW := Lib.hid (Hk.out.trans (KeptIn.of_below hb fun k hk => by have := Hk.out.size; omega))
              clear hT hp hd e86 HG Hp HT
              cases G with
              | false =>
                have hng : ¬ Good xs ys l L q := fun g => by have := HGp.out.2 g; cases this
                have HEnd := Lib.hid hng
                clear hng HGp hb g8 c3 c4 cp
                go_wp2_with fail
                rw [Exit.noGoto_normal]
                go_wp2_with fail
                exact ⟨⟨jj + 1, av, by go_num, by have := Hz.out; omega, .inr (.inr ⟨by have := Hz.out; omega, lo, q, HLo.out.1, by omega, by omega, HScan.out, HLo.out.2, .inr HEnd.out⟩), HW8.out, HkW.out⟩, by simp [intOf]; omega⟩
              | true =>
                have hg := HGp.out.1 rfl
                have HSc := Lib.hid (HScan.out.right (by omega) hg (by rw [← HPe.out]; exact hpn))
                rw [← HPe.out] at HSc
                have c8 : W.cell? ⟨X8, 0, none⟩ = some (.int .i64 (av : Int)) := by rw [g8.cell]; rfl
                replace c4 := cell_below hb c4
                replace cp := cell_below hb cp
                clear HGp hg hb c3
                go_upto_region 20 with fail
                refine wp_region_flow_tail 8 [87, 88, 89, 90, 91, 92, 93, 94] [(Spec.is (.pointer (some ⟨X8, 0, none⟩)), false), (Spec.is (.int .i64 (av : Int)), false), (Spec.is (.slice (some ⟨ob, oo, none⟩) m d), false), (Spec.is (.int .i64 (q : Int)), false), (Spec.is (.pointer (some ⟨ob, oo + q, none⟩)), false), (Spec.is (.int .i64 (p : Int)), false), (Spec.is (.int .i64 (min (av : Int) (p : Int))), false), (Spec.is (.pointer (some ⟨X8, 0, none⟩)), false)] 97 (by kernel_rfl) (List.take_append_drop _ _) rfl (by kernel_rfl) (by kernel_rfl) (by kernel_rfl) (by decide) (by kernel_rfl) (by kernel_rfl) (fun _ _ d _ _ h => by cases d <;> exact h) rfl (by decide) rfl (by decide) (by kernel_rfl) ?_ ?_
                · refine ⟨?_, ?_, ?_, ?_, ?_, ?_, ?_, ?_, trivial⟩
                  · intro a W hE hb hs
                    have h8 : a.eval (.tmp 8) = .pointer (some ⟨X8, 0, none⟩) := hb 8 (by decide)
                    refine flow0 rfl ?_
                    intro K hK
                    unfold Oper.wp execOp
                    simp only [h8]
                    simp [go_sem]
                    exact hK _ _ ⟨Below.refl _ _, rfl, trivial⟩
                  · intro a W hE hb hs
                    have h87 : a.eval (.tmp 87) = .pointer (some ⟨X8, 0, none⟩) := hs 0 (by decide)
                    refine flow0 rfl ?_
                    have c1 : W.cell? ⟨X8, 0, none⟩ = some (.int .i64 (av : Int)) := cell_ext hE c8
                    intro K hK
                    unfold Oper.wp execOp
                    simp only [h87]
                    simp [go_sem, c1]
                    exact hK _ _ ⟨Below.refl _ _, rfl, trivial⟩
                  · intro a W hE hb hs
                    have h4 : a.eval (.tmp 4) = .pointer (some ⟨X4, 0, none⟩) := hb 4 (by decide)
                    refine flow0 rfl ?_
                    have c1 : W.cell? ⟨X4, 0, none⟩ = some (.slice (some ⟨ob, oo, none⟩) m d) := cell_ext hE c4
                    intro K hK
                    unfold Oper.wp execOp
                    simp only [h4]
                    simp [go_sem, c1]
                    exact hK _ _ ⟨Below.refl _ _, rfl, trivial⟩
                  · intro a W hE hb hs
                    have h12 : a.eval (.tmp 12) = .int .i64 (q : Int) := hb 12 (by decide)
                    refine flow0 rfl ?_
                    exact val_move _ rfl _ h12 ⟨rfl, trivial⟩
                  · intro a W hE hb hs
                    have h89 : a.eval (.tmp 89) = .slice (some ⟨ob, oo, none⟩) m d := hs 2 (by decide)
                    have h90 : a.eval (.tmp 90) = .int .i64 (q : Int) := hs 3 (by decide)
                    refine flow0 rfl ?_
                    intro K hK
                    unfold Oper.wp execOp
                    simp only [h89, h90]
                    simp [go_sem, q1]
                    exact hK _ _ ⟨Below.refl _ _, rfl, trivial⟩
                  · intro a W hE hb hs
                    have h91 : a.eval (.tmp 91) = .pointer (some ⟨ob, oo + q, none⟩) := hs 4 (by decide)
                    refine flow0 rfl ?_
                    have c1 : W.cell? ⟨ob, oo + q, none⟩ = some (.int .i64 (p : Int)) := cell_ext hE cp
                    intro K hK
                    unfold Oper.wp execOp
                    simp only [h91]
                    simp [go_sem, c1]
                    exact hK _ _ ⟨Below.refl _ _, rfl, trivial⟩
                  · intro a W hE hb hs
                    have h88 : a.eval (.tmp 88) = .int .i64 (av : Int) := hs 1 (by decide)
                    have h92 : a.eval (.tmp 92) = .int .i64 (p : Int) := hs 5 (by decide)
                    refine flow0 rfl ?_
                    exact val_min _ _ _ rfl _ _ h88 h92 ⟨rfl, trivial⟩
                  · intro a W hE hb hs
                    have h8 : a.eval (.tmp 8) = .pointer (some ⟨X8, 0, none⟩) := hb 8 (by decide)
                    refine flow0 rfl ?_
                    intro K hK
                    unfold Oper.wp execOp
                    simp only [h8]
                    simp [go_sem]
                    exact hK _ _ ⟨Below.refl _ _, rfl, trivial⟩
                intro f2 W2 hb hT hp hd
                have e93 : f2 93 = .int .i64 (min (av : Int) (p : Int)) := hT 6 (by decide)
                have e94 : f2 94 = .pointer (some ⟨X8, 0, none⟩) := hT 7 (by decide)
                simp only [putV, List.foldl_cons, List.foldl_nil, Act.put, List.setIfInBounds_toArray, List.set_cons_succ, List.set_cons_zero]
                rw [e93, e94, show min (av : Int) (p : Int) = ((min av p : Nat) : Int) by omega]
                generalize min av p = a2 at *
                have g82 := g8.below hb g8.lt
                have gc : W2.cell? ⟨X8, 0, none⟩ = some (.int .i64 (av : Int)) := by rw [g82.cell]; rfl
                have gf := g82.frozen 0
                have hE1 : Blk (W2.setCell ⟨X8, 0, none⟩ (.int .i64 (a2 : Int))) X8 29 (fdV (a2 : Int) (L : Int)).toArray := heap_setCell_same W2 X8 0 _ 29 (.int .i64 (a2 : Int)) g82
                have hE2 := (HkW.out.trans (KeptIn.of_below hb fun k hk => by have := HkW.out.size; omega)).setAt (p := ⟨X8, 0, none⟩) (fun h => h.2 rfl) (.int .i64 (a2 : Int))
                have HE := Lib.hid (And.intro hE1 hE2)
                have ws : IntKind.i64.wrap ((q : Int) + 1) = (q : Int) + 1 := by simp [IntKind.wrap, IntKind.bits, IntKind.signed]; omega
                clear hb hT hp hd e93 e94 g8 g82 hE1 hE2 cp c4 c8 HW8 HkW HbW
                go_wp2_with fail
                exact ⟨⟨q + 1, a2, by go_num, by omega, by omega, HSc.out, HE.out⟩, by simp [intOf] <;> omega⟩
            · have hn1 : decide ((q : Int) ≥ 0) = true := decide_eq_true (by omega)
              have c4 : wr.cell? ⟨X4, 0, none⟩ = some (.slice (some ⟨ob, oo, none⟩) m d) := by rw [(Hkeep9.out wr Hk.out).2.1.cell]; rfl
              have hn3 : decide ((q : Int) < (m : Int)) = false := decide_eq_false (by omega)
              have hn4 : decide (q < m) = false := decide_eq_false hqm
              go_wp2_with fail
              rw [Exit.noGoto_normal]
              go_wp2_with fail
              exact ⟨⟨jj + 1, av, by go_num, by have := Hz.out; omega, .inr (.inr ⟨by have := Hz.out; omega, lo, q, HLo.out.1, by omega, by omega, HScan.out, HLo.out.2, .inl (by omega)⟩), H8.out, Hk.out⟩, by simp [intOf]; omega⟩
      · have d0 : decide ((j : Int) < 2) = false := decide_eq_false (by omega)
        have d0n : decide (j < 2) = false := decide_eq_false hj
        have he : j = 2 := by omega
        have hst := HSt.out
        rw [he, ← Hol.out] at hst
        have hfd := hst.fin Hord.out (by rw [Hol.out]; exact hPm) Hlo.out (by rw [Hol.out]; exact Hhi.out) (by rw [Hol.out]; exact HL.out) H0.out
        have HFd := Lib.hid hfd
        have Hr := Lib.hid (Blk.range (cs := fdV (av : Int) (L : Int)) H8.out)
        obtain ⟨g3, g4, g5, g6, gB⟩ := Hkeep9.out wr Hk.out
        have G6 := Lib.hid g6
        have GB := Lib.hid gB
        clear hst hfd he g3 g4 g5 g6 gB hbLr
        go_wp2_with (first | (refine wpList_load_mid rfl 29 (.tmp 8) rfl X8 0 rfl (fdV (av : Int) (L : Int)) d29 Hr.out hd29 hrow29 (by kernel_rfl) ?_) | (refine wpList_store_row rfl 29 (.tmp 6) (.tmp 96) rfl X6 (fdV (av : Int) (L : Int)).toArray rfl rfl 29 _ G6.out (size29 _ rfl) rfl (fd_one _ _) ?_))
        refine bodyPost_ret (results_cell_row rfl _ _ X6 29 _ (0, 0) _ rfl (setRow_heap _ _ _ _ _ _ G6.out) hd29 (by cases d29 <;> first | rfl | exact hrow29) (size29 _ rfl)) rfl ⟨⟨av, L, rfl, HFd.out⟩, Below.setRow GB.out (by have := Hq.out; omega) _⟩
end Go.Proofs.Ytcelkneeedebiaa
