/- The program's Order: the suffixes in order. -/
import Derived.Test.YtcelkneeedebiaaX20
import Derived.Laws.EntriesVeiled
namespace Go.Proofs.Ytcelkneeedebiaa
open Go Go.RowKit Go.Sort Go.Shelf

/-- The first numbers are there, the others are still 0. -/
def upV (f : Nat → Nat) (n i : Nat) : List Value := (List.range n).map fun t => natV (if t < i then f t else 0)
theorem upV_len (f : Nat → Nat) (n i : Nat) : (upV f n i).length = n := by simp [upV]
theorem upV_start (f : Nat → Nat) (n : Nat) : upV f n 0 = List.replicate n (Value.int .i64 0) := by
  apply List.ext_getElem?
  intro t
  by_cases h : t < n
  · unfold upV
    rw [List.getElem?_map, List.getElem?_range h, List.getElem?_replicate, if_pos h, Option.map_some, if_neg (Nat.not_lt_zero t)]; rfl
  · rw [List.getElem?_eq_none (by rw [upV_len]; omega), List.getElem?_eq_none (by simp; omega)]
theorem upV_at {f : Nat → Nat} {n i t : Nat} (h : t < n) : ∃ v, (upV f n i)[t]? = some v := ⟨_, List.getElem?_eq_getElem (by rw [upV_len]; exact h)⟩
theorem upV_set {f : Nat → Nat} {n i : Nat} (h : i < n) : (upV f n i).toArray.setIfInBounds i (natV (f i)) = (upV f n (i + 1)).toArray := by
  rw [List.setIfInBounds_toArray]
  congr 1
  apply List.ext_getElem?
  intro t
  rw [List.getElem?_set]
  by_cases ht : t < n
  · by_cases e : i = t
    · subst e
      rw [if_pos rfl, if_pos (by rw [upV_len]; exact h)]
      unfold upV
      rw [List.getElem?_map, List.getElem?_range ht, Option.map_some, if_pos (by omega)]
    · rw [if_neg e]
      unfold upV
      rw [List.getElem?_map, List.getElem?_map, List.getElem?_range ht, Option.map_some, Option.map_some]
      by_cases q : t < i
      · rw [if_pos q, if_pos (by omega)]
      · rw [if_neg q, if_neg (by omega)]
  · rw [List.getElem?_eq_none (l := upV f n (i + 1)) (by rw [upV_len]; omega), if_neg (by omega), List.getElem?_eq_none (by rw [upV_len]; omega)]
theorem upV_end {f : Nat → Nat} {n i : Nat} (hi : n ≤ i) : upV f n i = ((List.range n).map f).map natV := by
  unfold upV
  rw [List.map_map]
  refine List.map_congr_left fun t ht => ?_
  rw [if_pos (by have := List.mem_range.1 ht; omega)]; rfl
theorem blk_new' {W : World} {B : Nat} {T : TypeId} {Z : Array Value} (h : B = W.heap.size) : Blk (W.alloc (.cells Z T)) B T Z := by subst h; exact Blk.new _ _ _
def zerosA (n : Nat) : Array Value := Array.replicate n (Value.int .i64 0)
theorem zeros_up (f : Nat → Nat) (n : Nat) : zerosA n = (upV f n 0).toArray := by rw [upV_start]; simp [zerosA]
theorem zeros_ys (n : Nat) : ∃ ys : List Value, ys.length = n ∧ zerosA n = ys.toArray := ⟨List.replicate n (Value.int .i64 0), by simp, by simp [zerosA]⟩
theorem und3k : Try.prog.underlying 3 = some (.int .i64) := Try.underlying3
theorem run_neq2 (a b c d : Int) (w : World) : (binOp .neq 41 (.agg (pr2 a b).toArray) (.agg (pr2 c d).toArray)).run Try.prog w = .ok (.bool (!decide ([a, b] = [c, d]))) w := by
  have h := run_equalIn_arr w 9998 41 3 2 .i64 Try.underlying41 und3k (by kernel_rfl) [a, b] [c, d] rfl rfl
  have e : (binOp .neq 41 (.agg (pr2 a b).toArray) (.agg (pr2 c d).toArray)).run Try.prog w = ((Op.equalIn 10000 41 (.agg (pr2 a b).toArray) (.agg (pr2 c d).toArray)).run Try.prog w).andThen (fun b w' => .ok (.bool !b) w') := by
    simp [go_sem]
  rw [e]
  rw [show (Op.equalIn 10000 41 (.agg (pr2 a b).toArray) (.agg (pr2 c d).toArray)).run Try.prog w = _ from h]
  rfl
theorem two_key {b : List UInt8} {r : Nat → Nat} {w i j : Nat} (h : Rep b (max 1 w) r) (hi : i < b.length) (hj : j < b.length) : [(r i : Int), sec b.length r w i] = [(r j : Int), sec b.length r w j] ↔ key b (nextK w) i = key b (nextK w) j := by
  have k1 := keyLt_rep h hi hj
  have k2 := keyLt_rep h hj hi
  constructor
  · intro e
    simp only [List.cons.injEq, and_true] at e
    refine Classical.byContradiction fun g => ?_
    rcases lexlt_total g with q | q
    · have := k1.2 q
      unfold keyLt at this
      omega
    · have := k2.2 q
      unfold keyLt at this
      omega
  · intro e
    have n1 : ¬ keyLt b.length r w i j := fun q => by have := k1.1 q; rw [e, lexlt_irrefl] at this; cases this
    have n2 : ¬ keyLt b.length r w j i := fun q => by have := k2.1 q; rw [e, lexlt_irrefl] at this; cases this
    unfold keyLt at n1 n2
    have e1 : r i = r j := by omega
    have e2 : sec b.length r w i = sec b.length r w j := by omega
    rw [e1, e2]
/-- The number that a variable holds. -/
def wdOf (v : Value) (W : World) : Nat := match v with | .pointer (some a) => (intOf ((W.cell? a).getD undef)).toNat | _ => 0
/-- What holds between two rounds. -/
structure OSt (xs : List UInt8) (n O T3 T5 width : Nat) (l : List Nat) (r : Nat → Nat) (RB NB X9 : Nat) (ys : List Value) (w W : World) : Prop where
  bO : Blk W O 3 (l.map natV).toArray
  perm : l.Perm (List.range n)
  bR : Blk W RB 3 (((List.range n).map r).map natV).toArray
  bN : Blk W NB 3 ys.toArray
  yl : ys.length = n
  b5 : Blk W T5 25 #[.slice (some ⟨RB, 0, none⟩) n n]
  b3 : Blk W T3 3 #[.int .i64 (n : Int)]
  b9 : Blk W X9 3 #[.int .i64 (width : Int)]
  rep : Rep xs (max 1 width) r
  wl : width = 0 ∨ width < n
  ne : O ≠ RB ∧ O ≠ NB ∧ RB ≠ NB ∧ T3 ≠ O ∧ T3 ≠ RB ∧ T3 ≠ NB ∧ X9 ≠ O ∧ X9 ≠ RB ∧ X9 ≠ NB ∧ X9 ≠ T3
  le : w.heap.size ≤ O ∧ w.heap.size ≤ RB ∧ w.heap.size ≤ NB ∧ w.heap.size ≤ T5 ∧ w.heap.size ≤ X9
  hB : Below w.heap.size w W

set_option maxRecDepth 100000 in
set_option maxHeartbeats 8000000 in
theorem Order_any (A : Option Addr) (n c : Nat) (xs : List UInt8) (w : World) (hx : Rd w 1 A n (xs.map byteV)) (hn : n ≤ 100000) :
    Calls Try.prog 14 #[.slice A n c] w fun e w' => (∃ (A' : Option Addr) (c' : Nat) (l : List Nat), e = .returned (.slice A' n c') ∧ n ≤ c' ∧ Rd w' 1 A' n (l.map natV) ∧ IsOrd xs l) ∧ Below w.heap.size w w' := by
  have hxl := hx.len1
  have hmk := fun w => mkInts w n (by omega)
  have Hx := Lib.hid hx
  have Hxl := Lib.hid hxl
  clear hx hxl
  go_enter Try.func14, Try.ntmps14
  go_upto_region 2 with fail
  obtain ⟨w1, hw1⟩ : ∃ v, v = w.alloc (.cells #[.int .i64 (n : Int)] 3) := ⟨_, rfl⟩
  obtain ⟨T3, hT3⟩ : ∃ R, R = w.heap.size := ⟨_, rfl⟩
  rw [← hw1, ← hT3]
  have hb3 : Blk w1 T3 3 #[.int .i64 (n : Int)] := by rw [hw1, hT3]; exact Blk.new _ _ _
  have c3 : w1.cell? ⟨T3, 0, none⟩ = some (.int .i64 (n : Int)) := by rw [hb3.cell]; rfl
  have HB := Lib.hid (show Below w.heap.size w w1 by rw [hw1]; exact (Below.refl _ _).alloc (Nat.le_refl _) _)
  have H3 := Lib.hid hb3
  have HT3 := Lib.hid (show w.heap.size ≤ T3 by omega)
  have HT3o := Lib.hid (show T3 < w1.heap.size from hb3.lt)
  clear hw1 hT3 hb3
  have ca1 : ∀ o1, (w1.alloc o1).cell? ⟨T3, 0, none⟩ = some (.int .i64 (n : Int)) := fun o1 => cell_below ((Below.refl _ w1).alloc (Nat.le_refl _) o1) c3
  have ca2 : ∀ o1 o2, ((w1.alloc o1).alloc o2).cell? ⟨T3, 0, none⟩ = some (.int .i64 (n : Int)) := fun o1 o2 => cell_below ((Below.refl _ (w1.alloc o1)).alloc (Nat.le_refl _) o2) (ca1 o1)
  have ca3 : ∀ o1 o2 o3, (((w1.alloc o1).alloc o2).alloc o3).cell? ⟨T3, 0, none⟩ = some (.int .i64 (n : Int)) := fun o1 o2 o3 => cell_below ((Below.refl _ ((w1.alloc o1).alloc o2)).alloc (Nat.le_refl _) o3) (ca2 o1 o2)
  go_cut [2, 4, 5, 6] from 16 to 21 (fun v2 v4 v5 v6 wx => ∃ O R N T : Nat, v4 = .slice (some ⟨O, 0, none⟩) n n ∧ v5 = .pointer (some ⟨T, 0, none⟩) ∧ v6 = .slice (some ⟨N, 0, none⟩) n n ∧ Blk wx O 3 (zerosA n) ∧ Blk wx N 3 (zerosA n) ∧ Blk wx R 3 (zerosA n) ∧ Blk wx T 25 #[.slice (some ⟨R, 0, none⟩) n n] ∧ Below w1.heap.size w1 wx ∧ (w1.heap.size ≤ O ∧ w1.heap.size ≤ R ∧ w1.heap.size ≤ N ∧ w1.heap.size ≤ T ∧ O ≠ R ∧ O ≠ N ∧ R ≠ N))
  case first =>
    go_region
    go_wp2_with fail
    all_goals
      go_meet
      apply Exists.intro
      apply Exists.intro
      apply Exists.intro
      apply Exists.intro
      refine ⟨rfl, rfl, rfl, ?_, ?_, ?_, ?h5, ?_, ?_⟩
      case h5 =>
        refine Blk.drew ?_
        repeat (first | (refine blk_new' ?_; simp; done) | refine Blk.alloc ?_ _)
      · refine Blk.drew ?_
        repeat (first | (refine blk_new' ?_; simp; done) | refine Blk.alloc ?_ _)
      · refine Blk.drew ?_
        repeat (first | (refine blk_new' ?_; simp; done) | refine Blk.alloc ?_ _)
      · refine Blk.drew ?_
        repeat (first | (refine blk_new' ?_; simp; done) | refine Blk.alloc ?_ _)
      · exact (((((Below.refl w1.heap.size w1).alloc (Nat.le_refl _) _).alloc (by simp) _).alloc (by simp; omega) _).alloc (by simp; omega) _).drew
      · simp <;> omega
  case' rest => skip
  clear ca1 ca2 ca3 c3
  obtain ⟨O, R, N, T5, rfl, rfl, rfl, hO, hN, hR, h5, hB2, hle⟩ := hcut
  obtain ⟨w2, hw2⟩ : ∃ v, v = wc := ⟨_, rfl⟩
  subst hw2
  have HO := Lib.hid hO
  have HN := Lib.hid hN
  have HR := Lib.hid hR
  have H5 := Lib.hid h5
  have HB2 := Lib.hid (HB.out.trans (hB2.mono HB.out.size))
  replace H3 := Lib.hid (H3.out.below hB2 H3.out.lt)
  clear hO hN hR h5 hB2
  obtain ⟨lO, lR, lN, l5, nOR, nON, nRN⟩ := hle
  have h3lt := H3.out.lt
  have n3O : T3 ≠ O := by have := HB.out; have := HT3o.out; omega
  have n3R : T3 ≠ R := by have := HT3o.out; omega
  have n3N : T3 ≠ N := by have := HT3o.out; omega
  have n5O : T5 ≠ O := Blk.ne H5.out HO.out (by decide)
  have n5R : T5 ≠ R := Blk.ne H5.out HR.out (by decide)
  go_wp2_with fail
  go_loopw [7, 8, 24] (fun _ _ v24 wr => ∃ i : Nat, v24 = .int .i64 (i : Int) ∧ i ≤ n ∧ Blk wr O 3 (upV id n i).toArray ∧ Blk wr R 3 (upV (fun t => (xs.getD t 0).toNat) n i).toArray ∧ Blk wr N 3 (zerosA n) ∧ Blk wr T5 25 #[.slice (some ⟨R, 0, none⟩) n n] ∧ Blk wr T3 3 #[.int .i64 (n : Int)] ∧ Below w.heap.size w wr) (fun _ _ v24 _ => n - (intOf v24).toNat)
  case atStart => exact ⟨0, rfl, by omega, by rw [← zeros_up]; exact HO.out, by rw [← zeros_up]; exact HR.out, HN.out, H5.out, H3.out, HB2.out⟩
  case round =>
    obtain ⟨i, rfl, hi, hO, hR, hN, h5, h3, hB⟩ := hrel
    clear HO HR HN H5 H3 HB2
    have HO := Lib.hid hO
    have HR := Lib.hid hR
    have HN := Lib.hid hN
    have H5 := Lib.hid h5
    have H3 := Lib.hid h3
    have HBr := Lib.hid hB
    clear hO hR hN h5 h3 hB
    by_cases hlt : i < n
    · have d0 : decide ((i : Int) < (n : Int)) = true := decide_eq_true (by omega)
      obtain ⟨bb, bo, x, rfl, hxi, cx⟩ := (Hx.out.below HBr.out).at_ hlt
      have cx' : wr.cell? ⟨bb, bo + i, none⟩ = some (.int .u8 (x.toNat : Int)) := cx
      have i1 : (i : Int) < (n : Int) := by omega
      have i0 : (0 : Int) ≤ (i : Int) := by omega
      obtain ⟨u0, hu0⟩ := upV_at (f := id) (i := i) hlt
      obtain ⟨u1, hu1⟩ := upV_at (f := fun t => (xs.getD t 0).toNat) (i := i) hlt
      have cO : wr.cell? ⟨O, i, none⟩ = some u0 := by rw [HO.out.cell, List.getElem?_toArray]; exact hu0
      have frO := HO.out.frozen i
      have frR := HR.out.frozen i
      have c5 : wr.cell? ⟨T5, 0, none⟩ = some (.slice (some ⟨R, 0, none⟩) n n) := by rw [H5.out.cell]; rfl
      have k1 := (KeptIn.refl (fun b => b ≠ O) wr).setAt (p := ⟨O, i, none⟩) (fun h => h rfl) (.int .i64 (i : Int))
      have hR1 := HR.out.keptIn k1 (fun e => nOR e.symm)
      have hcv : IntKind.i64.wrap ((x.toNat : Int)) = (x.toNat : Int) := by have := x.toNat_lt; simp [IntKind.wrap, IntKind.bits, IntKind.signed]; omega
      have cR1 : (wr.setCell ⟨O, i, none⟩ (.int .i64 (i : Int))).cell? ⟨R, i, none⟩ = some u1 := by rw [hR1.cell, List.getElem?_toArray]; exact hu1
      have frR1 := hR1.frozen i
      have c51 : (wr.setCell ⟨O, i, none⟩ (.int .i64 (i : Int))).cell? ⟨T5, 0, none⟩ = some (.slice (some ⟨R, 0, none⟩) n n) := by rw [(H5.out.keptIn k1 n5O).cell]; rfl
      have k2 := k1.trans ((KeptIn.refl (fun b => b ≠ O) (wr.setCell ⟨O, i, none⟩ (.int .i64 (i : Int)))).mono (fun _ h => h))
      have k3 := (KeptIn.refl (fun b => b ≠ R) (wr.setCell ⟨O, i, none⟩ (.int .i64 (i : Int)))).setAt (p := ⟨R, i, none⟩) (fun h => h rfl) (.int .i64 (x.toNat : Int))
      have eO : Blk (wr.setCell ⟨O, i, none⟩ (.int .i64 (i : Int))) O 3 (upV id n (i + 1)).toArray := by rw [← upV_set hlt]; exact heap_setCell_same wr O i _ 3 _ HO.out
      have eR : Blk ((wr.setCell ⟨O, i, none⟩ (.int .i64 (i : Int))).setCell ⟨R, i, none⟩ (.int .i64 (x.toNat : Int))) R 3 (upV (fun t => (xs.getD t 0).toNat) n (i + 1)).toArray := by
        rw [← upV_set hlt]
        have e : (xs.getD i 0) = x := by rw [List.getD_eq_getElem?_getD, hxi]; rfl
        simp only [e]
        exact heap_setCell_same _ R i _ 3 _ hR1
      have EO := Lib.hid (eO.keptIn k3 nOR)
      have ER := Lib.hid eR
      have EN := Lib.hid ((HN.out.keptIn k1 (fun e => nON e.symm)).keptIn k3 (fun e => nRN e.symm))
      have E5 := Lib.hid ((H5.out.keptIn k1 n5O).keptIn k3 n5R)
      have E3 := Lib.hid ((H3.out.keptIn k1 n3O).keptIn k3 n3R)
      have EB := Lib.hid (Below.setCell (Below.setCell HBr.out (show w.heap.size ≤ O by have := HB.out.size; omega) (.int .i64 (i : Int)) (p := ⟨O, i, none⟩)) (show w.heap.size ≤ R by have := HB.out.size; omega) (.int .i64 (x.toNat : Int)) (p := ⟨R, i, none⟩))
      clear k1 k2 k3 hu0 hu1 eO eR hR1 cx hxi
      go_upto_region 6 with fail
      go_region
      go_wp2_with fail
      exact ⟨⟨i + 1, by go_num, by omega, EO.out, ER.out, EN.out, E5.out, E3.out, EB.out.drew⟩, by simp [intOf]; omega⟩
    · have he : i = n := by omega
      have d0 : decide ((i : Int) < (n : Int)) = false := decide_eq_false (by omega)
      have d1 : decide (i < n) = false := decide_eq_false hlt
      have hEO : Blk wr O 3 ((List.range n).map natV).toArray := by have := HO.out; rw [upV_end (show n ≤ i by omega), List.map_id] at this; exact this
      have hER : Blk wr R 3 (((List.range n).map fun t => (xs.getD t 0).toNat).map natV).toArray := by have := HR.out; rw [upV_end (show n ≤ i by omega)] at this; exact this
      replace HO := Lib.hid hEO
      replace HR := Lib.hid hER
      clear hEO hER he hi hlt
      go_wp2_with fail
      have HX9 := Lib.hid (Blk.new wr 3 #[.int .i64 0])
      have hBa := (Below.refl wr.heap.size wr).alloc (Nat.le_refl _) (.cells #[.int .i64 0] 3)
      have hst : OSt xs n O T3 T5 0 (List.range n) (fun t => (xs.getD t 0).toNat) R N wr.heap.size (zerosA n).toList w (wr.alloc (.cells #[.int .i64 0] 3)) := by
        refine ⟨HO.out.below hBa HO.out.lt, List.Perm.refl _, HR.out.below hBa HR.out.lt, ?_, by simp [zerosA], H5.out.below hBa H5.out.lt, H3.out.below hBa H3.out.lt, HX9.out, rep_one xs, .inl rfl, ⟨nOR, nON, nRN, n3O, n3R, n3N, ?_, ?_, ?_, ?_⟩, ⟨?_, ?_, ?_, ?_, ?_⟩, HBr.out.trans (hBa.mono HBr.out.size)⟩
        · have := HN.out.below hBa HN.out.lt; rwa [Array.toArray_toList]
        · have := HO.out.lt; omega
        · have := HR.out.lt; omega
        · have := HN.out.lt; omega
        · have := H3.out.lt; omega
        · have := HB.out.size; omega
        · have := HB.out.size; omega
        · have := HB.out.size; omega
        · have := HB.out.size; omega
        · exact HBr.out.size
      obtain ⟨wb, hwb⟩ : ∃ v, v = wr.alloc (.cells #[.int .i64 0] 3) := ⟨_, rfl⟩
      obtain ⟨XA, hXA⟩ : ∃ v, v = wr.heap.size := ⟨_, rfl⟩
      rw [← hwb, ← hXA] at hst ⊢
      have HST := Lib.hid hst
      clear hst hwb hXA HX9 hBa HO HR HN H5 H3 HBr
      clear nOR nON nRN n3O n3R n3N n5O n5R lO lR lN l5 h3lt
      go_loopw [6, 9, 10, 11, 12, 13] (fun v6 v9 _ _ _ _ wr => ∃ (width : Nat) (l : List Nat) (r : Nat → Nat) (RB NB X9 : Nat) (ys : List Value), v6 = .slice (some ⟨NB, 0, none⟩) n n ∧ v9 = .pointer (some ⟨X9, 0, none⟩) ∧ OSt xs n O T3 T5 width l r RB NB X9 ys w wr) (fun _ v9 _ _ _ _ W => n + 1 - wdOf v9 W)
      case atStart => exact ⟨0, _, _, R, N, XA, _, rfl, rfl, HST.out⟩
      case round =>
        obtain ⟨width, l, r, RB, NB, X9, ys, rfl, rfl, hst⟩ := hrel
        clear HST
        have HS := Lib.hid hst
        clear hst
        go_upto_region 11 with fail
        obtain ⟨wA, hwA⟩ : ∃ v, v = wr.alloc (.cells #[.func (.func 22) #[] #[.pointer (some ⟨X9, 0, none⟩), .pointer (some ⟨T5, 0, none⟩), .pointer (some ⟨T3, 0, none⟩)]] 42) := ⟨_, rfl⟩
        obtain ⟨T10, hT10⟩ : ∃ v, v = wr.heap.size := ⟨_, rfl⟩
        have hb10 : Blk wA T10 42 #[.func (.func 22) #[] #[.pointer (some ⟨X9, 0, none⟩), .pointer (some ⟨T5, 0, none⟩), .pointer (some ⟨T3, 0, none⟩)]] := by rw [hwA, hT10]; exact Blk.new _ _ _
        have hBA : Below wr.heap.size wr wA := by rw [hwA]; exact (Below.refl _ _).alloc (Nat.le_refl _) _
        rw [← hwA, ← hT10]
        have hOA := HS.out.bO.below hBA HS.out.bO.lt
        have hRA := HS.out.bR.below hBA HS.out.bR.lt
        have hNA := HS.out.bN.below hBA HS.out.bN.lt
        have h5A := HS.out.b5.below hBA HS.out.b5.lt
        have h3A := HS.out.b3.below hBA HS.out.b3.lt
        have h9A := HS.out.b9.below hBA HS.out.b9.lt
        have hyl := HS.out.yl
        have hBB := HS.out.hB.trans (hBA.mono HS.out.hB.size)
        obtain ⟨nOR, nON, nRN, n3O, n3R, n3N, n9O, n9R, n9N, n93⟩ := HS.out.ne
        obtain ⟨lO, lR, lN, l5, l9⟩ := HS.out.le
        have hwl := HS.out.wl
        have hkey : KeyW X9 T5 T3 RB n width r wA := ⟨by rw [h9A.cell]; rfl, by rw [h5A.cell]; rfl, by rw [h3A.cell]; rfl, fun t ht => by rw [hRA.cell, List.getElem?_toArray, List.getElem?_map, List.getElem?_map, List.getElem?_range ht]; rfl⟩
        have c10 : wA.cell? ⟨T10, 0, none⟩ = some (.func (.func 22) #[] #[.pointer (some ⟨X9, 0, none⟩), .pointer (some ⟨T5, 0, none⟩), .pointer (some ⟨T3, 0, none⟩)]) := by rw [hb10.cell]; rfl
        have n5O : T5 ≠ O := Blk.ne h5A hOA (by decide)
        have n5N : T5 ≠ NB := Blk.ne h5A hNA (by decide)
        have n10O : T10 ≠ O := Blk.ne hb10 hOA (by decide)
        have n10N : T10 ≠ NB := Blk.ne hb10 hNA (by decide)
        have hsort := Sort_any T10 X9 T5 T3 RB O n n width r xs l wA Hxl.out c10 hkey hOA HS.out.perm HS.out.rep n10O n9O n5O n3O (fun e => nOR e.symm) (by omega) (by omega)
        have HSort := Lib.hid hsort
        have HC := Lib.hid (show Blk wA RB 3 (((List.range n).map r).map natV).toArray ∧ Blk wA NB 3 ys.toArray ∧ Blk wA T5 25 #[.slice (some ⟨RB, 0, none⟩) n n] ∧ Blk wA T3 3 #[.int .i64 (n : Int)] ∧ Blk wA X9 3 #[.int .i64 (width : Int)] ∧ Blk wA T10 42 #[.func (.func 22) #[] #[.pointer (some ⟨X9, 0, none⟩), .pointer (some ⟨T5, 0, none⟩), .pointer (some ⟨T3, 0, none⟩)]] from ⟨hRA, hNA, h5A, h3A, h9A, hb10⟩)
        have HBB := Lib.hid hBB
        have Hyl := Lib.hid hyl
        have Hwl := Lib.hid hwl
        have HAP := Lib.hid (show (O ≠ RB ∧ O ≠ NB ∧ RB ≠ NB ∧ T3 ≠ O ∧ T3 ≠ RB ∧ T3 ≠ NB ∧ X9 ≠ O ∧ X9 ≠ RB ∧ X9 ≠ NB ∧ X9 ≠ T3) ∧ (w.heap.size ≤ O ∧ w.heap.size ≤ RB ∧ w.heap.size ≤ NB ∧ w.heap.size ≤ T5 ∧ w.heap.size ≤ X9) from ⟨⟨nOR, nON, nRN, n3O, n3R, n3N, n9O, n9R, n9N, n93⟩, lO, lR, lN, l5, l9⟩)
        clear hwA hT10 hb10 hBA hOA hRA hNA h5A h3A h9A hyl hBB hwl hkey c10 hsort
        go_wp2_with fail
        refine HSort.out.mono ?_
        rintro e w3 ⟨rfl, l', hsk, hO3, hk3⟩
        obtain ⟨cR, cN', c5, c3, c9, c10⟩ := HC.out
        have hR3 := cR.keptIn hk3 ⟨cR.lt, fun e => nOR e.symm⟩
        have hN3 := cN'.keptIn hk3 ⟨cN'.lt, fun e => nON e.symm⟩
        have h53 := c5.keptIn hk3 ⟨c5.lt, n5O⟩
        have h33 := c3.keptIn hk3 ⟨c3.lt, n3O⟩
        have h93 := c9.keptIn hk3 ⟨c9.lt, n9O⟩
        have h103 := c10.keptIn hk3 ⟨c10.lt, n10O⟩
        have hB3 : Below w.heap.size w w3 := HBB.out.trans (hk3.below fun k hk => ⟨by have := HBB.out.size; omega, by omega⟩)
        have HSK := Lib.hid hsk
        have HO3 := Lib.hid hO3
        have HR3 := Lib.hid hR3
        have HN3 := Lib.hid hN3
        have H53 := Lib.hid h53
        have H33 := Lib.hid h33
        have H93 := Lib.hid h93
        have H103 := Lib.hid h103
        have HB3 := Lib.hid hB3
        clear HSort HC hsk hO3 hk3 cR cN' c5 c3 c9 c10 hR3 hN3 h53 h33 h93 h103 hB3 HBB
        obtain ⟨wq, hwq⟩ : ∃ v, v = wr := ⟨_, rfl⟩
        subst hwq
        obtain ⟨f, hf⟩ : ∃ f, f = fK xs (nextK width) l' := ⟨_, rfl⟩
        go_wp2_with fail
        go_loopw [11, 12, 13, 48] (fun v11 _ _ v48 wr => ∃ (i : Nat) (ys' : List Value), v48 = .int .i64 (i : Int) ∧ i ≤ n ∧ v11 = .int .i64 (cN f (i - 1) : Int) ∧ ys'.length = n ∧ (∀ t, t < i → ys'[l'.getD t 0]? = some (natV (cN f t))) ∧ Blk wr NB 3 ys'.toArray ∧ KeptIn (fun k => k < w3.heap.size ∧ k ≠ NB) w3 wr) (fun _ _ _ v48 _ => n - (intOf v48).toNat)
        case atStart => exact ⟨0, ys, rfl, by omega, rfl, Hyl.out, fun t h => absurd h (Nat.not_lt_zero t), HN3.out, KeptIn.refl _ _⟩
        case round =>
          obtain ⟨i, ys', rfl, hi, rfl, hyl, hyt, hN, hk⟩ := hrel
          clear HN3 Hyl
          have Hyl := Lib.hid hyl
          have Hyt := Lib.hid hyt
          have HNr := Lib.hid hN
          have HKr := Lib.hid hk
          have HF := Lib.hid hf
          have hOr := HO3.out.keptIn hk ⟨HO3.out.lt, nON⟩
          have hRr := HR3.out.keptIn hk ⟨HR3.out.lt, nRN⟩
          have h5r := H53.out.keptIn hk ⟨H53.out.lt, n5N⟩
          have h3r := H33.out.keptIn hk ⟨H33.out.lt, n3N⟩
          have h9r := H93.out.keptIn hk ⟨H93.out.lt, n9N⟩
          have h10r := H103.out.keptIn hk ⟨H103.out.lt, n10N⟩
          have hBr : Below w.heap.size w wr := HB3.out.trans (hk.below fun k hk => ⟨by have := HB3.out.size; omega, by omega⟩)
          have HOr := Lib.hid hOr
          have HRr := Lib.hid hRr
          have H5r := Lib.hid h5r
          have H3r := Lib.hid h3r
          have H9r := Lib.hid h9r
          have H10r := Lib.hid h10r
          have HBr := Lib.hid hBr
          have hll : l'.length = n := by rw [HSK.out.len]; exact Hxl.out
          have Hll := Lib.hid hll
          have hmem : ∀ t, t < n → l'.getD t 0 < n := fun t ht => by
            have h1 : l'.getD t 0 ∈ l' := by rw [List.getD_eq_getElem?_getD, List.getElem?_eq_getElem (by rw [hll]; exact ht)]; exact List.getElem_mem _
            have h2 := List.mem_range.1 (HSK.out.1.mem_iff.1 h1)
            rwa [Hxl.out] at h2
          have Hmem := Lib.hid hmem
          have hgl : ∀ t, t < n → wr.cell? ⟨O, t, none⟩ = some (.int .i64 (l'.getD t 0 : Int)) := fun t ht => by
            rw [hOr.cell, List.getElem?_toArray, List.getElem?_map, List.getElem?_eq_getElem (by rw [hll]; exact ht), List.getD_eq_getElem?_getD, List.getElem?_eq_getElem (by rw [hll]; exact ht)]; rfl
          have Hgl := Lib.hid hgl
          clear hyl hyt hN hk hf hOr hRr h5r h3r h9r h10r hBr hll hmem hgl
          by_cases hlt : i < n
          · have d0 : decide ((i : Int) < (n : Int)) = true := decide_eq_true (by omega)
            have hxn := Hmem.out i hlt
            have cOi := Hgl.out i hlt
            obtain ⟨x, hx⟩ : ∃ x, x = l'.getD i 0 := ⟨_, rfl⟩
            rw [← hx] at hxn cOi
            have HX := Lib.hid hx
            have i1 : (i : Int) < (n : Int) := by omega
            have i0 : (0 : Int) ≤ (i : Int) := by omega
            have x1 : (x : Int) < (n : Int) := by omega
            have x0 : (0 : Int) ≤ (x : Int) := by omega
            -- what the store does, whatever the world behind the test
            have hstore : ∀ (W : World) (k : Nat), Below wr.heap.size wr W → k = cN f i → (∃ u, W.cell? ⟨NB, x, none⟩ = some u) ∧ W.frozen? ⟨NB, x, none⟩ = false ∧ ∃ ys2 : List Value, ys2.length = n ∧ (∀ t, t < i + 1 → ys2[l'.getD t 0]? = some (natV (cN f t))) ∧ Blk (W.setCell ⟨NB, x, none⟩ (.int .i64 (k : Int))) NB 3 ys2.toArray ∧ KeptIn (fun k => k < w3.heap.size ∧ k ≠ NB) w3 (W.setCell ⟨NB, x, none⟩ (.int .i64 (k : Int))) := fun W k hb hk => by
              have hNW := HNr.out.below hb HNr.out.lt
              have hxy : x < ys'.length := by rw [Hyl.out]; exact hxn
              refine ⟨⟨ys'[x], by rw [hNW.cell, List.getElem?_toArray, List.getElem?_eq_getElem hxy]⟩, hNW.frozen x, ys'.set x (natV k), by rw [List.length_set]; exact Hyl.out, fun t ht => ?_, ?_, ?_⟩
              · by_cases e : t = i
                · subst e
                  rw [← HX.out, List.getElem?_set, if_pos rfl, if_pos hxy, hk]
                · have hne : x ≠ l'.getD t 0 := fun q => by
                    rw [HX.out] at q
                    have hnd : l'.Nodup := HSK.out.1.symm.nodup List.nodup_range
                    have ht' : t < l'.length := by rw [Hll.out]; omega
                    have hi' : i < l'.length := by rw [Hll.out]; exact hlt
                    rw [getD_of hi', getD_of ht'] at q
                    exact (List.pairwise_iff_getElem.1 hnd) t i ht' hi' (by omega) q.symm
                  rw [List.getElem?_set, if_neg hne]
                  exact Hyt.out t (by omega)
              · have := heap_setCell_same W NB x _ 3 (.int .i64 (k : Int)) hNW
                rw [List.setIfInBounds_toArray] at this
                exact this
              · exact (HKr.out.trans (KeptIn.of_below hb fun k hk => by have := HKr.out.size; omega)).setAt (p := ⟨NB, x, none⟩) (fun h => h.2 rfl) _
            have HSt := Lib.hid hstore
            clear hx hstore
            by_cases h0 : i = 0
            · have dk : decide ((i : Int) > 0) = false := decide_eq_false (by omega)
              have dk2 : decide (0 < i) = false := decide_eq_false (by omega)
              obtain ⟨k, hk⟩ : ∃ k, k = cN f (i - 1) := ⟨_, rfl⟩
              have hk2 : k = cN f i := by rw [hk, h0]
              rw [← hk]
              have Hk := Lib.hid hk2
              clear hk hk2 h0
              go_upto_region 16 with fail
              refine wp_region_flowF [53, 54, 55, 56, 57, 58, 59, 60, 61, 62, 63, 64, 65, 66, 67] [(Spec.is (.int .i64 (i : Int)), false), (Spec.is (.bool false), false), (Spec.is (.bool false), false), (Spec.any, false), (Spec.any, false), (Spec.any, false), (Spec.any, false), (Spec.any, false), (Spec.any, false), (Spec.any, false), (Spec.any, false), (Spec.any, false), (Spec.any, false), (Spec.any, false), (Spec.is (.bool false), false)] 87 (by kernel_rfl) rfl (by decide) rfl (by decide) (by kernel_rfl) ?_ ?_
              · refine ⟨?_, ?_, ?_, ?_, ?_, ?_, ?_, ?_, ?_, ?_, ?_, ?_, ?_, ?_, ?_, trivial⟩
                · intro a W hE hb hs
                  have h12 : a.eval (.tmp 12) = .int .i64 (i : Int) := hb 12 (by decide)
                  refine flow0 rfl ?_
                  exact val_move _ rfl _ h12 ⟨rfl, trivial⟩
                · intro a W hE hb hs
                  have h53 : a.eval (.tmp 53) = .int .i64 (i : Int) := hs 0 (by decide)
                  refine flow0 rfl ?_
                  intro K hK
                  unfold Oper.wp execOp
                  simp only [h53, BigFrame.eval_const]
                  simp [go_sem, dk2]
                  exact hK _ _ ⟨Below.refl _ _, rfl, trivial⟩
                · intro a W hE hb hs
                  have h54 : a.eval (.tmp 54) = .bool false := hs 1 (by decide)
                  refine flow0 rfl ?_
                  exact val_move _ rfl _ h54 ⟨rfl, trivial⟩
                · intro a W hE hb hs
                  have h55 : a.eval (.tmp 55) = .bool false := hs 2 (by decide)
                  exact flowN rfl rfl h55 (by decide) ⟨trivial, rfl⟩
                · intro a W hE hb hs
                  have h55 : a.eval (.tmp 55) = .bool false := hs 2 (by decide)
                  exact flowN rfl rfl h55 (by decide) ⟨trivial, rfl⟩
                · intro a W hE hb hs
                  have h55 : a.eval (.tmp 55) = .bool false := hs 2 (by decide)
                  exact flowN rfl rfl h55 (by decide) ⟨trivial, rfl⟩
                · intro a W hE hb hs
                  have h55 : a.eval (.tmp 55) = .bool false := hs 2 (by decide)
                  exact flowN rfl rfl h55 (by decide) ⟨trivial, rfl⟩
                · intro a W hE hb hs
                  have h55 : a.eval (.tmp 55) = .bool false := hs 2 (by decide)
                  exact flowN rfl rfl h55 (by decide) ⟨trivial, rfl⟩
                · intro a W hE hb hs
                  have h55 : a.eval (.tmp 55) = .bool false := hs 2 (by decide)
                  exact flowN rfl rfl h55 (by decide) ⟨trivial, rfl⟩
                · intro a W hE hb hs
                  have h55 : a.eval (.tmp 55) = .bool false := hs 2 (by decide)
                  exact flowN rfl rfl h55 (by decide) ⟨trivial, rfl⟩
                · intro a W hE hb hs
                  have h55 : a.eval (.tmp 55) = .bool false := hs 2 (by decide)
                  exact flowN rfl rfl h55 (by decide) ⟨trivial, rfl⟩
                · intro a W hE hb hs
                  have h55 : a.eval (.tmp 55) = .bool false := hs 2 (by decide)
                  exact flowN rfl rfl h55 (by decide) ⟨trivial, rfl⟩
                · intro a W hE hb hs
                  have h55 : a.eval (.tmp 55) = .bool false := hs 2 (by decide)
                  exact flowN rfl rfl h55 (by decide) ⟨trivial, rfl⟩
                · intro a W hE hb hs
                  have h55 : a.eval (.tmp 55) = .bool false := hs 2 (by decide)
                  exact flowN rfl rfl h55 (by decide) ⟨trivial, rfl⟩
                · intro a W hE hb hs
                  have h55 : a.eval (.tmp 55) = .bool false := hs 2 (by decide)
                  refine flow0 rfl ?_
                  exact val_pick _ _ _ rfl false h55 _ (by rw [if_neg (by decide)]; rfl) ⟨rfl, trivial⟩
              intro fv W hb hT hp hd
              have e67 : fv 67 = .bool false := hT 14 (by decide)
              simp only [putV, List.foldl_cons, List.foldl_nil, Act.put, List.setIfInBounds_toArray, List.set_cons_succ, List.set_cons_zero, Exit.then]
              rw [e67]
              obtain ⟨⟨u, hu⟩, hfr, ys2, hyl2, hyt2, hb2, hk2⟩ := HSt.out W k hb Hk.out
              have HE := Lib.hid (And.intro hyl2 (And.intro hyt2 (And.intro hb2 hk2)))
              have Hv := Lib.hid (show Value.int .i64 (k : Int) = .int .i64 (cN f (i + 1 - 1) : Int) by rw [Nat.add_sub_cancel, Hk.out])
              clear hb hT hp hd e67 hyl2 hyt2 hb2 hk2 HSt dk dk2
              go_wp2_with fail
              exact ⟨⟨i + 1, ys2, by go_num, by omega, Hv.out, HE.out⟩, by simp [intOf]; omega⟩
            · obtain ⟨j, hj⟩ : ∃ j, i = j + 1 := ⟨i - 1, by omega⟩
              have dk : decide ((i : Int) > 0) = true := decide_eq_true (by omega)
              have dk2 : decide (0 < i) = true := decide_eq_true (by omega)
              have hjn : j < n := by omega
              have hpn := Hmem.out j hjn
              have cOj := Hgl.out j hjn
              obtain ⟨p, hp⟩ : ∃ p, p = l'.getD j 0 := ⟨_, rfl⟩
              rw [← hp] at hpn cOj
              have HP := Lib.hid hp
              have wj : IntKind.i64.wrap ((i : Int) - 1) = (j : Int) := by simp [IntKind.wrap, IntKind.bits, IntKind.signed]; omega
              have j1 : (j : Int) < (n : Int) := by omega
              have j0 : (0 : Int) ≤ (j : Int) := by omega
              have c10 : wr.cell? ⟨T10, 0, none⟩ = some (.func (.func 22) #[] #[.pointer (some ⟨X9, 0, none⟩), .pointer (some ⟨T5, 0, none⟩), .pointer (some ⟨T3, 0, none⟩)]) := by rw [H10r.out.cell]; rfl
              have HK := Lib.hid (show KeyW X9 T5 T3 RB n width r wr from ⟨by rw [H9r.out.cell]; rfl, by rw [H5r.out.cell]; rfl, by rw [H3r.out.cell]; rfl, fun t ht => by rw [HRr.out.cell, List.getElem?_toArray, List.getElem?_map, List.getElem?_map, List.getElem?_range ht]; rfl⟩)
              have hnM : n ≤ 1000000 := by omega
              have hwM : width ≤ 1000000000 := by have := Hwl.out; omega
              have htk := two_key (i := p) (j := x) HS.out.rep (by rw [Hxl.out]; exact hpn) (by rw [Hxl.out]; exact hxn)
              rw [Hxl.out] at htk
              have hfp : f j = key xs (nextK width) p := by rw [HF.out, HP.out]; rfl
              have hfx : f (j + 1) = key xs (nextK width) x := by rw [HF.out, HX.out, hj]; rfl
              rw [← hfp, ← hfx] at htk
              obtain ⟨D, hD⟩ : ∃ D, D = !decide ([(r p : Int), sec n r width p] = [(r x : Int), sec n r width x]) := ⟨_, rfl⟩
              have HD := Lib.hid hD.symm
              have hcN : cN f i = cN f j + if D = true then 1 else 0 := by
                rw [hj]
                show cN f j + (if f j = f (j + 1) then 0 else 1) = _
                rw [hD]
                by_cases e : f j = f (j + 1)
                · rw [if_pos e, decide_eq_true (htk.2 e)]; rfl
                · rw [if_neg e, decide_eq_false (fun q => e (htk.1 q))]; rfl
              have HcN := Lib.hid hcN
              have hjm : i - 1 = j := by omega
              rw [hjm]
              have Hj := Lib.hid hj
              have hxn' := hxn
              clear hp htk hfp hfx hD hcN hj hjm
              go_upto_region 16 with fail
              refine wp_region_flowF [53, 54, 55, 56, 57, 58, 59, 60, 61, 62, 63, 64, 65, 66, 67] [(Spec.is (.int .i64 (i : Int)), false), (Spec.is (.bool true), false), (Spec.is (.bool true), false), (Spec.is (.func (.func 22) #[] #[.pointer (some ⟨X9, 0, none⟩), .pointer (some ⟨T5, 0, none⟩), .pointer (some ⟨T3, 0, none⟩)]), false), (Spec.is (.slice (some ⟨O, 0, none⟩) n n), false), (Spec.is (.int .i64 (i : Int)), false), (Spec.is (.int .i64 (j : Int)), false), (Spec.is (.pointer (some ⟨O, j, none⟩)), false), (Spec.is (.int .i64 (p : Int)), false), (Spec.is (.agg (pr2 (r p) (sec n r width p)).toArray), false), (Spec.is (.func (.func 22) #[] #[.pointer (some ⟨X9, 0, none⟩), .pointer (some ⟨T5, 0, none⟩), .pointer (some ⟨T3, 0, none⟩)]), false), (Spec.is (.int .i64 (x : Int)), false), (Spec.is (.agg (pr2 (r x) (sec n r width x)).toArray), false), (Spec.is (.bool D), false), (Spec.is (.bool D), false)] 87 (by kernel_rfl) rfl (by decide) rfl (by decide) (by kernel_rfl) ?_ ?_
              · refine ⟨?_, ?_, ?_, ?_, ?_, ?_, ?_, ?_, ?_, ?_, ?_, ?_, ?_, ?_, ?_, trivial⟩
                · intro a W hE hb hs
                  have h12 : a.eval (.tmp 12) = .int .i64 (i : Int) := hb 12 (by decide)
                  refine flow0 rfl ?_
                  exact val_move _ rfl _ h12 ⟨rfl, trivial⟩
                · intro a W hE hb hs
                  have h53 : a.eval (.tmp 53) = .int .i64 (i : Int) := hs 0 (by decide)
                  refine flow0 rfl ?_
                  intro K hK
                  unfold Oper.wp execOp
                  simp only [h53, BigFrame.eval_const]
                  simp [go_sem, dk2]
                  exact hK _ _ ⟨Below.refl _ _, rfl, trivial⟩
                · intro a W hE hb hs
                  have h54 : a.eval (.tmp 54) = .bool true := hs 1 (by decide)
                  refine flow0 rfl ?_
                  exact val_move _ rfl _ h54 ⟨rfl, trivial⟩
                · intro a W hE hb hs
                  have h10 : a.eval (.tmp 10) = .pointer (some ⟨T10, 0, none⟩) := hb 10 (by decide)
                  have h55 : a.eval (.tmp 55) = .bool true := hs 2 (by decide)
                  refine flowY rfl rfl h55 ?_
                  have c1 : W.cell? ⟨T10, 0, none⟩ = some (.func (.func 22) #[] #[.pointer (some ⟨X9, 0, none⟩), .pointer (some ⟨T5, 0, none⟩), .pointer (some ⟨T3, 0, none⟩)]) := cell_ext hE c10
                  intro K hK
                  unfold Oper.wp execOp
                  simp only [h10]
                  simp [go_sem, c1]
                  exact hK _ _ ⟨Below.refl _ _, rfl, trivial⟩
                · intro a W hE hb hs
                  have h4 : a.eval (.tmp 4) = .slice (some ⟨O, 0, none⟩) n n := hb 4 (by decide)
                  have h55 : a.eval (.tmp 55) = .bool true := hs 2 (by decide)
                  refine flowY rfl rfl h55 ?_
                  exact val_move _ rfl _ h4 ⟨rfl, trivial⟩
                · intro a W hE hb hs
                  have h12 : a.eval (.tmp 12) = .int .i64 (i : Int) := hb 12 (by decide)
                  have h55 : a.eval (.tmp 55) = .bool true := hs 2 (by decide)
                  refine flowY rfl rfl h55 ?_
                  exact val_move _ rfl _ h12 ⟨rfl, trivial⟩
                · intro a W hE hb hs
                  have h58 : a.eval (.tmp 58) = .int .i64 (i : Int) := hs 5 (by decide)
                  have h55 : a.eval (.tmp 55) = .bool true := hs 2 (by decide)
                  refine flowY rfl rfl h55 ?_
                  intro K hK
                  unfold Oper.wp execOp
                  simp only [h58, BigFrame.eval_const]
                  simp [go_sem, wj]
                  exact hK _ _ ⟨Below.refl _ _, rfl, trivial⟩
                · intro a W hE hb hs
                  have h57 : a.eval (.tmp 57) = .slice (some ⟨O, 0, none⟩) n n := hs 4 (by decide)
                  have h59 : a.eval (.tmp 59) = .int .i64 (j : Int) := hs 6 (by decide)
                  have h55 : a.eval (.tmp 55) = .bool true := hs 2 (by decide)
                  refine flowY rfl rfl h55 ?_
                  intro K hK
                  unfold Oper.wp execOp
                  simp only [h57, h59]
                  simp [go_sem, j1]
                  exact hK _ _ ⟨Below.refl _ _, rfl, trivial⟩
                · intro a W hE hb hs
                  have h60 : a.eval (.tmp 60) = .pointer (some ⟨O, j, none⟩) := hs 7 (by decide)
                  have h55 : a.eval (.tmp 55) = .bool true := hs 2 (by decide)
                  refine flowY rfl rfl h55 ?_
                  have c1 : W.cell? ⟨O, j, none⟩ = some (.int .i64 (p : Int)) := cell_ext hE cOj
                  intro K hK
                  unfold Oper.wp execOp
                  simp only [h60]
                  simp [go_sem, c1]
                  exact hK _ _ ⟨Below.refl _ _, rfl, trivial⟩
                · intro a W hE hb hs
                  have h56 : a.eval (.tmp 56) = .func (.func 22) #[] #[.pointer (some ⟨X9, 0, none⟩), .pointer (some ⟨T5, 0, none⟩), .pointer (some ⟨T3, 0, none⟩)] := hs 3 (by decide)
                  have h61 : a.eval (.tmp 61) = .int .i64 (p : Int) := hs 8 (by decide)
                  have h55 : a.eval (.tmp 55) = .bool true := hs 2 (by decide)
                  refine flowY rfl rfl h55 ?_
                  exact val_callv 22 _ _ _ rfl (by kernel_rfl) #[.pointer (some ⟨X9, 0, none⟩), .pointer (some ⟨T5, 0, none⟩), .pointer (some ⟨T3, 0, none⟩)] h56 [.int .i64 (p : Int)] (by show [a.eval (.tmp 61)] = _; rw [h61]) ((Key_any X9 T5 T3 RB n width r p W (HK.out.below (ext_below hE)) hpn hnM hwM).mono (by rintro e W' ⟨rfl, hb, hdr⟩; exact ⟨_, rfl, hb, rfl, trivial⟩))
                · intro a W hE hb hs
                  have h10 : a.eval (.tmp 10) = .pointer (some ⟨T10, 0, none⟩) := hb 10 (by decide)
                  have h55 : a.eval (.tmp 55) = .bool true := hs 2 (by decide)
                  refine flowY rfl rfl h55 ?_
                  have c1 : W.cell? ⟨T10, 0, none⟩ = some (.func (.func 22) #[] #[.pointer (some ⟨X9, 0, none⟩), .pointer (some ⟨T5, 0, none⟩), .pointer (some ⟨T3, 0, none⟩)]) := cell_ext hE c10
                  intro K hK
                  unfold Oper.wp execOp
                  simp only [h10]
                  simp [go_sem, c1]
                  exact hK _ _ ⟨Below.refl _ _, rfl, trivial⟩
                · intro a W hE hb hs
                  have h13 : a.eval (.tmp 13) = .int .i64 (x : Int) := hb 13 (by decide)
                  have h55 : a.eval (.tmp 55) = .bool true := hs 2 (by decide)
                  refine flowY rfl rfl h55 ?_
                  exact val_move _ rfl _ h13 ⟨rfl, trivial⟩
                · intro a W hE hb hs
                  have h63 : a.eval (.tmp 63) = .func (.func 22) #[] #[.pointer (some ⟨X9, 0, none⟩), .pointer (some ⟨T5, 0, none⟩), .pointer (some ⟨T3, 0, none⟩)] := hs 10 (by decide)
                  have h64 : a.eval (.tmp 64) = .int .i64 (x : Int) := hs 11 (by decide)
                  have h55 : a.eval (.tmp 55) = .bool true := hs 2 (by decide)
                  refine flowY rfl rfl h55 ?_
                  exact val_callv 22 _ _ _ rfl (by kernel_rfl) #[.pointer (some ⟨X9, 0, none⟩), .pointer (some ⟨T5, 0, none⟩), .pointer (some ⟨T3, 0, none⟩)] h63 [.int .i64 (x : Int)] (by show [a.eval (.tmp 64)] = _; rw [h64]) ((Key_any X9 T5 T3 RB n width r x W (HK.out.below (ext_below hE)) hxn hnM hwM).mono (by rintro e W' ⟨rfl, hb, hdr⟩; exact ⟨_, rfl, hb, rfl, trivial⟩))
                · intro a W hE hb hs
                  have h62 : a.eval (.tmp 62) = .agg (pr2 (r p) (sec n r width p)).toArray := hs 9 (by decide)
                  have h65 : a.eval (.tmp 65) = .agg (pr2 (r x) (sec n r width x)).toArray := hs 12 (by decide)
                  have h55 : a.eval (.tmp 55) = .bool true := hs 2 (by decide)
                  refine flowY rfl rfl h55 ?_
                  intro K hK
                  unfold Oper.wp execOp
                  simp only [h62, h65, Sem.run_bind, run_neq2, HD.out, Sem.run_pure]
                  exact hK _ _ ⟨Below.refl _ _, rfl, trivial⟩
                · intro a W hE hb hs
                  have h55 : a.eval (.tmp 55) = .bool true := hs 2 (by decide)
                  have h66 : a.eval (.tmp 66) = .bool D := hs 13 (by decide)
                  refine flow0 rfl ?_
                  exact val_pick _ _ _ rfl true h55 _ (by rw [if_pos rfl]; exact h66) ⟨rfl, trivial⟩
              intro fv W hb hT hp hd
              have e67 : fv 67 = .bool D := hT 14 (by decide)
              simp only [putV, List.foldl_cons, List.foldl_nil, Act.put, List.setIfInBounds_toArray, List.set_cons_succ, List.set_cons_zero, Exit.then]
              rw [e67]
              obtain ⟨k, hk⟩ : ∃ k, k = cN f j := ⟨_, rfl⟩
              have hkle : k ≤ j := by rw [hk]; exact cN_le f j
              obtain ⟨⟨u, hu⟩, hfr, ys2, hyl2, hyt2, hb2, hk2⟩ := HSt.out W (cN f i) hb rfl
              rw [← hk]
              have hcn := HcN.out
              rw [← hk] at hcn
              have HE := Lib.hid (And.intro hyl2 (And.intro hyt2 (And.intro hb2 hk2)))
              clear hb hT hp hd e67 hyl2 hyt2 hb2 hk2 HSt dk dk2 hk
              cases D with
              | true =>
                rw [if_pos rfl] at hcn
                have e : ((cN f i : Nat) : Int) = (k : Int) + 1 := by rw [hcn]; push_cast; rfl
                rw [e] at HE
                have Hv := Lib.hid (show Value.int .i64 ((k : Int) + 1) = .int .i64 (cN f (i + 1 - 1) : Int) by rw [Nat.add_sub_cancel, e])
                have hwr : IntKind.i64.wrap ((k : Int) + 1) = (k : Int) + 1 := by simp [IntKind.wrap, IntKind.bits, IntKind.signed]; omega
                clear hcn e HcN
                go_wp2_with fail
                exact ⟨⟨i + 1, ys2, by go_num, by omega, Hv.out, HE.out⟩, by simp [intOf]; omega⟩
              | false =>
                rw [if_neg (by decide), Nat.add_zero] at hcn
                rw [hcn] at HE
                have Hv := Lib.hid (show Value.int .i64 (k : Int) = .int .i64 (cN f (i + 1 - 1) : Int) by rw [Nat.add_sub_cancel, hcn])
                clear hcn HcN
                go_wp2_with fail
                exact ⟨⟨i + 1, ys2, by go_num, by omega, Hv.out, HE.out⟩, by simp [intOf]; omega⟩
          · have he : i = n := by omega
            have d0 : decide ((i : Int) < (n : Int)) = false := decide_eq_false (by omega)
            have d1 : decide (i < n) = false := decide_eq_false hlt
            have h5c : wr.cell? ⟨T5, 0, none⟩ = some (.slice (some ⟨RB, 0, none⟩) n n) := by rw [H5r.out.cell]; rfl
            have h3c : wr.cell? ⟨T3, 0, none⟩ = some (.int .i64 (n : Int)) := by rw [H3r.out.cell]; rfl
            have hf5 := H5r.out.frozen 0
            go_upto_region 21 with fail
            obtain ⟨w5, hw5⟩ : ∃ v, v = wr.setCell ⟨T5, 0, none⟩ (.slice (some ⟨NB, 0, none⟩) n n) := ⟨_, rfl⟩
            have hk5 := (KeptIn.refl (fun b => b ≠ T5) wr).setAt (p := ⟨T5, 0, none⟩) (fun h => h rfl) (.slice (some ⟨NB, 0, none⟩) n n)
            have n5R : T5 ≠ RB := Blk.ne H5r.out HRr.out (by decide)
            have n53 : T5 ≠ T3 := Blk.ne H5r.out H3r.out (by decide)
            have n59 : T5 ≠ X9 := Blk.ne H5r.out H9r.out (by decide)
            have h55 : Blk w5 T5 25 #[.slice (some ⟨NB, 0, none⟩) n n] := by
              have := heap_setCell_same wr T5 0 _ 25 (.slice (some ⟨NB, 0, none⟩) n n) H5r.out
              rw [← hw5] at this; exact this
            rw [← hw5] at hk5 ⊢
            have H55 := Lib.hid h55
            have HO5 := Lib.hid (HOr.out.keptIn hk5 (fun e => n5O e.symm))
            have HR5 := Lib.hid (HRr.out.keptIn hk5 (fun e => n5R e.symm))
            have HN5 := Lib.hid (HNr.out.keptIn hk5 (fun e => n5N e.symm))
            have H35 := Lib.hid (H3r.out.keptIn hk5 (fun e => n53 e.symm))
            have H95 := Lib.hid (H9r.out.keptIn hk5 (fun e => n59 e.symm))
            have HB5 := Lib.hid (show Below w.heap.size w w5 by rw [hw5]; exact Below.setCell HBr.out l5 _)
            have h3c5 : w5.cell? ⟨T3, 0, none⟩ = some (.int .i64 (n : Int)) := by rw [H35.out.cell]; rfl
            have h9c5 : w5.cell? ⟨X9, 0, none⟩ = some (.int .i64 (width : Int)) := by rw [H95.out.cell]; rfl
            clear hw5 hk5 h55 h5c h3c hf5 d0 d1
            have HRd := Lib.hid (rd_blk HO5.out (by rw [List.length_map]; exact Hll.out) (show n ≤ 1000000 by omega))
            obtain ⟨k, hk⟩ : ∃ k, k = cN f (i - 1) := ⟨_, rfl⟩
            rw [← hk]
            have Hk := Lib.hid (show k = cN (fK xs (nextK width) l') (n - 1) by rw [hk, he, HF.out])
            have Hyt2 := Lib.hid (show ∀ t, t < n → ys'[l'.getD t 0]? = some (natV (cN (fK xs (nextK width) l') t)) from fun t ht => by rw [← HF.out]; exact Hyt.out t (by omega))
            clear hk he hlt hi Hyt
            by_cases h0 : n = 0
            · have hord : IsOrd xs l' := by
                have hx0 : xs = [] := List.length_eq_zero_iff.1 (by rw [Hxl.out]; exact h0)
                have hl0 : l' = [] := List.length_eq_zero_iff.1 (by rw [Hll.out]; exact h0)
                rw [hx0, hl0]
                exact ⟨List.Perm.refl _, List.Pairwise.nil⟩
              have HOrd := Lib.hid hord
              have e1 : ((n : Int) == 0) = true := by rw [h0]; rfl
              have e2 : (n == 0) = true := by rw [h0]; rfl
              have e3 : decide ((n : Int) = 0) = true := decide_eq_true (by omega)
              have e4 : decide (n = 0) = true := decide_eq_true h0
              clear h0 hord
              go_wp2_with fail
              all_goals
                go_ret
                exact ⟨⟨_, _, l', rfl, Nat.le_refl _, HRd.out, HOrd.out⟩, HB5.out⟩
            · obtain ⟨m, hm⟩ : ∃ m, n = m + 1 := ⟨n - 1, by omega⟩
              have wn : IntKind.i64.wrap ((n : Int) - 1) = (m : Int) := by simp [IntKind.wrap, IntKind.bits, IntKind.signed]; omega
              have e1 : ((n : Int) == 0) = false := by rw [beq_eq_false_iff_ne]; omega
              have e2 : (n == 0) = false := by rw [beq_eq_false_iff_ne]; omega
              have e3 : decide ((n : Int) = 0) = false := decide_eq_false (by omega)
              have Hm := Lib.hid hm
              have H0 := Lib.hid h0
              clear hm
              by_cases hkm : k = m
              · have hord : IsOrd xs l' := ord_done HSK.out (by rw [Hxl.out]; omega) (by rw [Hxl.out, ← Hk.out, hkm]; have := Hm.out; omega)
                have HOrd := Lib.hid hord
                have q1 : ((k : Int) == (m : Int)) = true := by rw [hkm]; simp
                have q2 : (k == m) = true := by rw [hkm]; simp
                clear hord hkm
                go_wp2_with fail
                all_goals
                  go_ret
                  exact ⟨⟨_, _, l', rfl, Nat.le_refl _, HRd.out, HOrd.out⟩, HB5.out⟩
              · have q1 : ((k : Int) == (m : Int)) = false := by rw [beq_eq_false_iff_ne]; omega
                have q2 : (k == m) = false := by rw [beq_eq_false_iff_ne]; omega
                have hbig : nextK width < n := by
                  refine Classical.byContradiction fun q => hkm ?_
                  have := done_big (b := xs) HSK.out (by rw [Hxl.out]; omega)
                  rw [Hxl.out] at this
                  rw [Hk.out, this]
                  have := Hm.out; omega
                have w2 : IntKind.i64.wrap (2 * (width : Int)) = 2 * (width : Int) := by have := Hwl.out; simp [IntKind.wrap, IntKind.bits, IntKind.signed]; omega
                have Hbig := Lib.hid hbig
                clear hkm hbig
                go_wp2_with fail
                have hmx : max 1 (2 * (width : Int)) = ((nextK width : Nat) : Int) := by unfold nextK; split <;> omega
                rw [hmx]
                have hnk : 1 ≤ nextK width ∧ width < nextK width := by unfold nextK; split <;> omega
                have hBa := (Below.refl w5.heap.size w5).alloc (Nat.le_refl _) (.cells #[.int .i64 ((nextK width : Nat) : Int)] 3)
                have h9n := Blk.new w5 3 #[.int .i64 ((nextK width : Nat) : Int)]
                generalize w5.alloc (.cells #[.int .i64 ((nextK width : Nat) : Int)] 3) = w6 at *
                obtain ⟨r', hr'⟩ : ∃ r' : Nat → Nat, r' = fun x => (intOf (ys'.getD x undef)).toNat := ⟨_, rfl⟩
                have hrt : ∀ t, t < xs.length → r' (l'.getD t 0) = cN (fK xs (nextK width) l') t := fun t ht => by
                  rw [Hxl.out] at ht
                  rw [hr']
                  simp only
                  rw [List.getD_eq_getElem?_getD, Hyt2.out t ht]
                  simp [natV, intOf]
                have hrep := rep_next HSK.out hrt
                have hys : ys' = ((List.range n).map r').map natV := by
                  apply List.ext_getElem?
                  intro x
                  by_cases hx : x < n
                  · obtain ⟨t, ht, e⟩ := HSK.out.at_ (show x < xs.length by rw [Hxl.out]; exact hx)
                    have e2 := hrt t ht
                    rw [e] at e2
                    rw [Hxl.out] at ht
                    have e3 := Hyt2.out t ht
                    rw [e] at e3
                    rw [List.getElem?_map, List.getElem?_map, List.getElem?_range hx, Option.map_some, Option.map_some, e2, e3]
                  · rw [List.getElem?_eq_none (by rw [Hyl.out]; omega), List.getElem?_eq_none (by simp; omega)]
                have hN5 := HN5.out
                rw [hys] at hN5
                have hB6 := HB5.out.trans (hBa.mono HB5.out.size)
                have hst : OSt xs n O T3 T5 (nextK width) l' r' NB RB w5.heap.size (((List.range n).map r).map natV) w w6 := by
                  refine ⟨HO5.out.below hBa HO5.out.lt, by have := HSK.out.1; rwa [Hxl.out] at this, hN5.below hBa HN5.out.lt, HR5.out.below hBa HR5.out.lt, by simp, H55.out.below hBa H55.out.lt, H35.out.below hBa H35.out.lt, h9n, ?_, .inr Hbig.out, ⟨nON, nOR, fun e => nRN e.symm, n3O, n3N, n3R, ?_, ?_, ?_, ?_⟩, ⟨lO, lN, lR, l5, HB5.out.size⟩, hB6⟩
                  · rw [show max 1 (nextK width) = nextK width by omega]; exact hrep
                  · have := HO5.out.lt; omega
                  · have := HN5.out.lt; omega
                  · have := HR5.out.lt; omega
                  · have := H35.out.lt; omega
                have m1 : wdOf (.pointer (some ⟨w5.heap.size, 0, none⟩)) w6 = nextK width := by unfold wdOf; simp only; rw [h9n.cell]; simp [intOf]
                have m2 : wdOf (.pointer (some ⟨X9, 0, none⟩)) wq = width := by unfold wdOf; simp only; rw [HS.out.b9.cell]; simp [intOf]
                refine ⟨⟨nextK width, l', r', NB, RB, w5.heap.size, _, rfl, rfl, hst⟩, ?_⟩
                rw [m1, m2]
                have := Hbig.out
                omega
end Go.Proofs.Ytcelkneeedebiaa
