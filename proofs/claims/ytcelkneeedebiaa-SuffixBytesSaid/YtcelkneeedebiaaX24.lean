/- The fixed examples of chapter 04 come out as they should. -/
import Derived.Test.YtcelkneeedebiaaX21
import Derived.Test.YtcelkneeedebiaaX23
import Derived.Lib.SlBytesConst
namespace Go.Proofs.Ytcelkneeedebiaa
open Go Go.RowKit Go.Sort Go.Shelf

/-- Longest's answer, reckoned. -/
theorem Longest_best (A O B : Option Addr) (n m k c d e : Nat) (xs ys : List UInt8) (l : List Nat) (w : World) (hx : Rd w 1 A n (xs.map byteV)) (ho : Rd w 1 O m (l.map natV)) (hy : Rd w 1 B k (ys.map byteV)) (hord : IsOrd xs l) (hnc : n ≤ c) (hke : k ≤ e) (hn : n ≤ 100000) (hk : k ≤ 100000) :
    Calls Try.prog 15 #[.slice A n c, .slice O m d, .slice B k e] w fun e w' => e = .returned (.agg #[.int .i64 ((bestTo xs ys xs.length).1 : Int), .int .i64 ((bestTo xs ys xs.length).2 : Int)]) ∧ Below w.heap.size w w' := by
  refine (Longest_any A O B n m k c d e xs ys l w hx ho hy hord hnc hke hn hk).mono ?_
  rintro e w' ⟨⟨a, L, rfl, hf⟩, hb⟩
  obtain ⟨h1, h2⟩ := hf.unique (bestTo_found xs ys)
  subst h1 h2
  exact ⟨rfl, hb⟩
theorem fields29 : (Try.prog.fieldsOf 29).toList.map (fun f => (f.name == "_", f.type, f.offset)) = [(false, 3, 0), (false, 3, 1)] := by kernel_rfl
theorem und3i : Try.prog.underlying 3 = some (.int .i64) := Try.underlying3
theorem part_a (a b : Int) (w : World) : (part 3 (fdV a b).toArray 0).run Try.prog w = .ok (.int .i64 a) w := by
  have h : (fdV a b).toArray[0]? = some (.int .i64 a) := rfl
  unfold part
  simp only [isAgg, Sem.run_bind, run_underlying und3i, Result.andThen_ok, Sem.run_pure, Bool.false_eq_true, if_false, h]
theorem part_b (a b : Int) (w : World) : (part 3 (fdV a b).toArray 1).run Try.prog w = .ok (.int .i64 b) w := by
  have h : (fdV a b).toArray[1]? = some (.int .i64 b) := rfl
  unfold part
  simp only [isAgg, Sem.run_bind, run_underlying und3i, Result.andThen_ok, Sem.run_pure, Bool.false_eq_true, if_false, h]
theorem run_eqlF (a b c d : Int) (w : World) : (binOp .eql 29 (.agg (fdV a b).toArray) (.agg (fdV c d).toArray)).run Try.prog w = .ok (.bool (decide (a = c ∧ b = d))) w := by
  have hf := fields29
  rw [run_eql_struct, run_equalIn_struct w 9999 29 _ _ (by kernel_rfl) (by kernel_rfl)]
  generalize (Try.prog.fieldsOf 29).toList = L at hf
  rcases L with _ | ⟨f1, _ | ⟨f2, _ | ⟨f3, L⟩⟩⟩
  · simp at hf
  · simp at hf
  rotate_left
  · simp at hf
  simp only [List.map_cons, List.map_nil, List.cons.injEq, Prod.mk.injEq, beq_eq_false_iff_ne, ne_eq, and_true] at hf
  obtain ⟨⟨n1, t1, o1⟩, ⟨n2, t2, o2⟩⟩ := hf
  simp only [Op.eqFields, ne_eq, n1, n2, not_false_eq_true, if_true, t1, t2, o1, o2, Sem.run_bind, part_a, part_b, Result.andThen_ok, Sem.run_ite, run_equalIn_int w 9998 3 .i64 .i64 _ _ und3i, Sem.run_pure]
  by_cases h1 : a = c
  · by_cases h2 : b = d
    · simp [h1, h2]
    · simp [h1, h2]
  · simp [h1]
theorem und5u : Try.prog.underlying 5 = some (.int .u8) := Try.underlying5
theorem rd_marked (w : World) (T : TypeId) (fr : Nat × Nat) (n : Nat) (xs : List Value) (hn : xs.length = n) (hb : n ≤ 1000000) : Rd (w.alloc (.cells xs.toArray T fr)) 1 (some ⟨w.heap.size, 0, none⟩) n xs := by
  refine ⟨by rw [Nat.mul_one]; exact hn, by omega, fun _ => ⟨_, 0, rfl, fun j u hu => ?_⟩⟩
  rw [Nat.zero_add]
  have hx : (w.alloc (.cells xs.toArray T fr)).heap[w.heap.size]? = some (.cells xs.toArray T fr) := by
    show (w.heap.push _)[w.heap.size]? = _
    simp
  unfold World.cell?
  simp only [hx]
  rw [List.getElem?_toArray]
  exact hu
def saB : List UInt8 := [97, 98, 97, 98]
theorem sa_ord : IsOrd saB [2, 0, 3, 1] := by
  refine ⟨by decide, ?_⟩
  unfold sufLt
  decide
theorem sa_com : comL saB [2, 0, 3, 1] = [0, 2, 0, 1] := by decide
theorem sa_nil : IsOrd [] [] := ⟨List.Perm.refl _, List.Pairwise.nil⟩
theorem sa_l1 : bestTo saB [97, 98, 99] saB.length = (0, 2) := by decide
theorem sa_l2 : bestTo saB [99, 97, 98] saB.length = (0, 0) := by decide
theorem sa_l3 : bestTo [] [97] ([] : List UInt8).length = (0, 0) := by decide
theorem ints_nat (l : List Nat) : l.map natV = (l.map fun i : Nat => (i : Int)).map intV := by rw [List.map_map]; rfl
theorem nats_inj (l l' : List Nat) : decide ((l.map fun i : Nat => (i : Int)) = l'.map fun i : Nat => (i : Int)) = decide (l = l') := by
  refine decide_eq_decide.2 ⟨fun h => ?_, fun h => by rw [h]⟩
  exact (List.map_inj_right (fun a b h => by omega)).1 h
theorem IntsN_any (A B : Option Addr) (n m c d : Nat) (l l' : List Nat) (w : World) (hx : Rd w 1 A n (l.map natV)) (hy : Rd w 1 B m (l'.map natV)) :
    Calls Try.prog 13 #[.slice A n c, .slice B m d] w fun e w' => e = .returned (.bool (decide (l = l'))) ∧ Below w.heap.size w w' := by
  rw [ints_nat] at hx hy
  have := Ints_any A B n m c d _ _ w hx hy
  rw [nats_inj] at this
  exact this
theorem IntsT_any (A B : Option Addr) (n m c d : Nat) (l : List Nat) (w : World) (hx : Rd w 1 A n (l.map natV)) (hy : Rd w 1 B m (l.map natV)) :
    Calls Try.prog 13 #[.slice A n c, .slice B m d] w fun e w' => e = .returned (.bool true) ∧ Below w.heap.size w w' := by
  have := IntsN_any A B n m c d l l w hx hy
  rw [decide_eq_true rfl] at this
  exact this
set_option maxRecDepth 100000 in
set_option maxHeartbeats 4000000 in
theorem sanity_any (w : World) : Calls Try.prog 10 #[] w fun e w' => e = .returned (.bool true) ∧ Below w.heap.size w w' := by
  obtain ⟨d29, hd29, hrow29⟩ := und29
  go_enter Try.func10, Try.ntmps10
  have hcv := fun (w : World) (C : Array Value) (n c : Nat) => Lib.run_convert_bytes_const (P := Try.prog) w 22 5 C n c Try.underlying22 und5u
  go_upto_region 3 with fail
  obtain ⟨w1, hw1⟩ : ∃ v, v = (w.alloc (.cells #[.int .u8 97, .int .u8 98, .int .u8 97, .int .u8 98] 5 (4, 5))).alloc (.cells #[.int .i64 2, .int .i64 0, .int .i64 3, .int .i64 1] 3) := ⟨_, rfl⟩
  obtain ⟨X1, hX1⟩ : ∃ v, v = w.heap.size := ⟨_, rfl⟩
  obtain ⟨X2, hX2⟩ : ∃ v, v = w.heap.size + 1 := ⟨_, rfl⟩
  have HB := Lib.hid (show Below w.heap.size w w1 by rw [hw1]; exact ((Below.refl w.heap.size w).alloc (Nat.le_refl _) _).alloc (by simp) _)
  have H1 := Lib.hid (show Rd w1 1 (some ⟨X1, 0, none⟩) 4 (saB.map byteV) by
    rw [hw1]
    rw [hX1]
    exact (rd_marked w 5 (4, 5) 4 (saB.map byteV) rfl (by decide)).below ((Below.refl _ _).alloc (Nat.le_refl _) _))
  have H2 := Lib.hid (show Rd w1 1 (some ⟨X2, 0, none⟩) 4 (([2, 0, 3, 1] : List Nat).map natV) by
    rw [hw1]
    exact rd_blk (T := 3) (xs := ([2, 0, 3, 1] : List Nat).map natV) (blk_newB (by rw [hX2]; simp)) rfl (by decide))
  rw [← hw1, ← hX2, ← hX1]
  clear hw1 hX1 hX2
  have hb_ : Below w1.heap.size w1 (w1.alloc (.cells #[.int .u8 97, .int .u8 98, .int .u8 99] 5 (3, 4))) := (Below.refl _ _).alloc (Nat.le_refl _) _
  have hl_ : Calls Try.prog 15 #[.slice (some ⟨X1, 0, none⟩) 4 4, .slice (some ⟨X2, 0, none⟩) 4 4, .slice (some ⟨w1.heap.size, 0, none⟩) 3 3] (w1.alloc (.cells #[.int .u8 97, .int .u8 98, .int .u8 99] 5 (3, 4))) fun e w' => e = .returned (.agg #[.int .i64 0, .int .i64 2]) ∧ Below w1.heap.size w1 w' := by
    have := Longest_best (some ⟨X1, 0, none⟩) (some ⟨X2, 0, none⟩) (some ⟨w1.heap.size, 0, none⟩) 4 4 3 4 4 3 saB [97, 98, 99] [2, 0, 3, 1] (w1.alloc (.cells #[.int .u8 97, .int .u8 98, .int .u8 99] 5 (3, 4))) (H1.out.below hb_) (H2.out.below hb_) (rd_marked w1 5 (3, 4) 3 (([97, 98, 99] : List UInt8).map byteV) rfl (by decide)) sa_ord (Nat.le_refl _) (Nat.le_refl _) (by decide) (by decide)
    rw [sa_l1] at this
    exact this.mono fun e w' h => ⟨h.1, hb_.trans (h.2.mono hb_.size)⟩
  have HL := Lib.hid hl_
  clear hl_ hb_
  go_wp2_with fail
  refine HL.out.mono ?_
  rintro e w2a ⟨rfl, hb_⟩
  replace H1 := Lib.hid (H1.out.below hb_)
  replace H2 := Lib.hid (H2.out.below hb_)
  replace HB := Lib.hid (HB.out.trans (hb_.mono HB.out.size))
  clear hb_ HL
  go_upto_region 4 with fail
  obtain ⟨w2, hn_⟩ : ∃ v, v = w2a.alloc (.cells #[.int .i64 0, .int .i64 2] 29) := ⟨_, rfl⟩
  obtain ⟨X3, hX_⟩ : ∃ v, v = w2a.heap.size := ⟨_, rfl⟩
  have HBX3 := Lib.hid (show Blk w2 X3 29 (fdV 0 2).toArray by rw [hn_]; exact blk_newB hX_)
  have hb_ : Below w2a.heap.size w2a w2 := by rw [hn_]; exact (Below.refl _ _).alloc (Nat.le_refl _) _
  rw [← hn_, ← hX_]
  clear hn_ hX_
  replace H1 := Lib.hid (H1.out.below hb_)
  replace H2 := Lib.hid (H2.out.below hb_)
  replace HB := Lib.hid (HB.out.trans (hb_.mono HB.out.size))
  clear hb_
  have hb_ : Below w2.heap.size w2 (w2.alloc (.cells #[.int .u8 99, .int .u8 97, .int .u8 98] 5 (3, 4))) := (Below.refl _ _).alloc (Nat.le_refl _) _
  have hl_ : Calls Try.prog 15 #[.slice (some ⟨X1, 0, none⟩) 4 4, .slice (some ⟨X2, 0, none⟩) 4 4, .slice (some ⟨w2.heap.size, 0, none⟩) 3 3] (w2.alloc (.cells #[.int .u8 99, .int .u8 97, .int .u8 98] 5 (3, 4))) fun e w' => e = .returned (.agg #[.int .i64 0, .int .i64 0]) ∧ Below w2.heap.size w2 w' := by
    have := Longest_best (some ⟨X1, 0, none⟩) (some ⟨X2, 0, none⟩) (some ⟨w2.heap.size, 0, none⟩) 4 4 3 4 4 3 saB [99, 97, 98] [2, 0, 3, 1] (w2.alloc (.cells #[.int .u8 99, .int .u8 97, .int .u8 98] 5 (3, 4))) (H1.out.below hb_) (H2.out.below hb_) (rd_marked w2 5 (3, 4) 3 (([99, 97, 98] : List UInt8).map byteV) rfl (by decide)) sa_ord (Nat.le_refl _) (Nat.le_refl _) (by decide) (by decide)
    rw [sa_l2] at this
    exact this.mono fun e w' h => ⟨h.1, hb_.trans (h.2.mono hb_.size)⟩
  have HL := Lib.hid hl_
  clear hl_ hb_
  go_wp2_with fail
  refine HL.out.mono ?_
  rintro e w3a ⟨rfl, hb_⟩
  replace H1 := Lib.hid (H1.out.below hb_)
  replace H2 := Lib.hid (H2.out.below hb_)
  replace HB := Lib.hid (HB.out.trans (hb_.mono HB.out.size))
  replace HBX3 := Lib.hid (HBX3.out.below hb_ HBX3.out.lt)
  clear hb_ HL
  go_upto_region 5 with fail
  obtain ⟨w3, hn_⟩ : ∃ v, v = w3a.alloc (.cells #[.int .i64 0, .int .i64 0] 29) := ⟨_, rfl⟩
  obtain ⟨X4, hX_⟩ : ∃ v, v = w3a.heap.size := ⟨_, rfl⟩
  have HBX4 := Lib.hid (show Blk w3 X4 29 (fdV 0 0).toArray by rw [hn_]; exact blk_newB hX_)
  have hb_ : Below w3a.heap.size w3a w3 := by rw [hn_]; exact (Below.refl _ _).alloc (Nat.le_refl _) _
  rw [← hn_, ← hX_]
  clear hn_ hX_
  replace H1 := Lib.hid (H1.out.below hb_)
  replace H2 := Lib.hid (H2.out.below hb_)
  replace HB := Lib.hid (HB.out.trans (hb_.mono HB.out.size))
  replace HBX3 := Lib.hid (HBX3.out.below hb_ HBX3.out.lt)
  clear hb_
  have hb_ : Below w3.heap.size w3 (w3.alloc (.cells #[.int .u8 97] 5 (1, 2))) := (Below.refl _ _).alloc (Nat.le_refl _) _
  have hl_ : Calls Try.prog 15 #[.slice none 0 0, .slice none 0 0, .slice (some ⟨w3.heap.size, 0, none⟩) 1 1] (w3.alloc (.cells #[.int .u8 97] 5 (1, 2))) fun e w' => e = .returned (.agg #[.int .i64 0, .int .i64 0]) ∧ Below w3.heap.size w3 w' := by
    have := Longest_best none none (some ⟨w3.heap.size, 0, none⟩) 0 0 1 0 0 1 [] [97] [] (w3.alloc (.cells #[.int .u8 97] 5 (1, 2))) (Rd.nil _ _ _) (Rd.nil _ _ _) (rd_marked w3 5 (1, 2) 1 (([97] : List UInt8).map byteV) rfl (by decide)) sa_nil (Nat.le_refl _) (Nat.le_refl _) (by decide) (by decide)
    rw [sa_l3] at this
    exact this.mono fun e w' h => ⟨h.1, hb_.trans (h.2.mono hb_.size)⟩
  have HL := Lib.hid hl_
  clear hl_ hb_
  go_wp2_with fail
  refine HL.out.mono ?_
  rintro e w4a ⟨rfl, hb_⟩
  replace H1 := Lib.hid (H1.out.below hb_)
  replace H2 := Lib.hid (H2.out.below hb_)
  replace HB := Lib.hid (HB.out.trans (hb_.mono HB.out.size))
  replace HBX3 := Lib.hid (HBX3.out.below hb_ HBX3.out.lt)
  replace HBX4 := Lib.hid (HBX4.out.below hb_ HBX4.out.lt)
  clear hb_ HL
  go_upto_region 6 with fail
  obtain ⟨w4, hn_⟩ : ∃ v, v = w4a.alloc (.cells #[.int .i64 0, .int .i64 0] 29) := ⟨_, rfl⟩
  obtain ⟨X5, hX_⟩ : ∃ v, v = w4a.heap.size := ⟨_, rfl⟩
  have HBX5 := Lib.hid (show Blk w4 X5 29 (fdV 0 0).toArray by rw [hn_]; exact blk_newB hX_)
  have hb_ : Below w4a.heap.size w4a w4 := by rw [hn_]; exact (Below.refl _ _).alloc (Nat.le_refl _) _
  rw [← hn_, ← hX_]
  clear hn_ hX_
  replace H1 := Lib.hid (H1.out.below hb_)
  replace H2 := Lib.hid (H2.out.below hb_)
  replace HB := Lib.hid (HB.out.trans (hb_.mono HB.out.size))
  replace HBX3 := Lib.hid (HBX3.out.below hb_ HBX3.out.lt)
  replace HBX4 := Lib.hid (HBX4.out.below hb_ HBX4.out.lt)
  clear hb_
  go_wp2_with fail
  refine (Order_any (some ⟨X1, 0, none⟩) 4 4 saB w4 H1.out (by decide)).mono ?_
  rintro e w5 ⟨⟨A5, c5, l5, rfl, hc5, hr5, ho5⟩, hb_⟩
  replace H1 := Lib.hid (H1.out.below hb_)
  replace H2 := Lib.hid (H2.out.below hb_)
  replace HB := Lib.hid (HB.out.trans (hb_.mono HB.out.size))
  replace HBX3 := Lib.hid (HBX3.out.below hb_ HBX3.out.lt)
  replace HBX4 := Lib.hid (HBX4.out.below hb_ HBX4.out.lt)
  replace HBX5 := Lib.hid (HBX5.out.below hb_ HBX5.out.lt)
  obtain rfl : l5 = [2, 0, 3, 1] := ho5.unique sa_ord
  have HR5 := Lib.hid hr5
  clear ho5 hr5
  clear hb_
  go_wp2_with fail
  refine (IntsT_any A5 (some ⟨X2, 0, none⟩) 4 4 c5 4 _ w5 HR5.out H2.out).mono ?_
  rintro e w6 ⟨rfl, hb_⟩
  replace H1 := Lib.hid (H1.out.below hb_)
  replace H2 := Lib.hid (H2.out.below hb_)
  replace HB := Lib.hid (HB.out.trans (hb_.mono HB.out.size))
  replace HBX3 := Lib.hid (HBX3.out.below hb_ HBX3.out.lt)
  replace HBX4 := Lib.hid (HBX4.out.below hb_ HBX4.out.lt)
  replace HBX5 := Lib.hid (HBX5.out.below hb_ HBX5.out.lt)
  replace HR5 := Lib.hid (HR5.out.below hb_)
  clear HR5
  clear hb_
  go_wp2_with fail
  refine (Common_any (some ⟨X1, 0, none⟩) (some ⟨X2, 0, none⟩) 4 4 4 4 saB [2, 0, 3, 1] w6 H1.out H2.out (by decide) (by decide) (by decide)).mono ?_
  rintro e w7 ⟨⟨A7, c7, rfl, hc7, hr7⟩, hb_⟩
  replace H1 := Lib.hid (H1.out.below hb_)
  replace H2 := Lib.hid (H2.out.below hb_)
  replace HB := Lib.hid (HB.out.trans (hb_.mono HB.out.size))
  replace HBX3 := Lib.hid (HBX3.out.below hb_ HBX3.out.lt)
  replace HBX4 := Lib.hid (HBX4.out.below hb_ HBX4.out.lt)
  replace HBX5 := Lib.hid (HBX5.out.below hb_ HBX5.out.lt)
  rw [sa_com] at hr7
  have HR7 := Lib.hid hr7
  clear hr7
  clear hb_
  have hb_ : Below w7.heap.size w7 (w7.alloc (.cells #[.int .i64 0, .int .i64 2, .int .i64 0, .int .i64 1] 3)) := (Below.refl _ _).alloc (Nat.le_refl _) _
  have HI := Lib.hid (IntsT_any A7 (some ⟨w7.heap.size, 0, none⟩) 4 4 c7 4 _ _ (HR7.out.below hb_) (rd_blk (T := 3) (xs := ([0, 2, 0, 1] : List Nat).map natV) (Blk.new _ _ _) rfl (by decide)))
  have Hb7 := Lib.hid hb_
  clear hb_
  go_wp2_with fail
  refine HI.out.mono ?_
  rintro e w8 ⟨rfl, hb_⟩
  replace hb_ := Hb7.out.trans (hb_.mono Hb7.out.size)
  replace H1 := Lib.hid (H1.out.below hb_)
  replace H2 := Lib.hid (H2.out.below hb_)
  replace HB := Lib.hid (HB.out.trans (hb_.mono HB.out.size))
  replace HBX3 := Lib.hid (HBX3.out.below hb_ HBX3.out.lt)
  replace HBX4 := Lib.hid (HBX4.out.below hb_ HBX4.out.lt)
  replace HBX5 := Lib.hid (HBX5.out.below hb_ HBX5.out.lt)
  replace HR7 := Lib.hid (HR7.out.below hb_)
  clear hb_ HI Hb7 HR7
  have hrX3 := Blk.range (cs := [.int .i64 0, .int .i64 2]) HBX3.out
  have hrX4 := Blk.range (cs := [.int .i64 0, .int .i64 0]) HBX4.out
  have hrX5 := Blk.range (cs := [.int .i64 0, .int .i64 0]) HBX5.out
  have he2 := fun W => (show (binOp .eql 29 (.agg #[.int .i64 0, .int .i64 2]) (.agg #[.int .i64 0, .int .i64 2])).run Try.prog W = .ok (.bool true) W from run_eqlF 0 2 0 2 W)
  have he0 := fun W => (show (binOp .eql 29 (.agg #[.int .i64 0, .int .i64 0]) (.agg #[.int .i64 0, .int .i64 0])).run Try.prog W = .ok (.bool true) W from run_eqlF 0 0 0 0 W)
  go_wp2_with (first | (refine wpList_load_mid_g (by first | rfl | simp [Region.wanted, yielded]) 29 (.tmp 3) rfl X3 0 rfl [.int .i64 0, .int .i64 2] d29 hrX3 hd29 hrow29 (by kernel_rfl) ?_) | (refine wpList_load_mid_g (by first | rfl | simp [Region.wanted, yielded]) 29 (.tmp 4) rfl X4 0 rfl [.int .i64 0, .int .i64 0] d29 hrX4 hd29 hrow29 (by kernel_rfl) ?_) | (refine wpList_load_mid_g (by first | rfl | simp [Region.wanted, yielded]) 29 (.tmp 5) rfl X5 0 rfl [.int .i64 0, .int .i64 0] d29 hrX5 hd29 hrow29 (by kernel_rfl) ?_))
  refine (Order_any none 0 0 [] w8 (Rd.nil _ _ _) (by decide)).mono ?_
  rintro e w9 ⟨⟨A9, c9, l9, rfl, hc9, hr9, ho9⟩, hb_⟩
  replace H1 := Lib.hid (H1.out.below hb_)
  replace H2 := Lib.hid (H2.out.below hb_)
  replace HB := Lib.hid (HB.out.trans (hb_.mono HB.out.size))
  replace HBX3 := Lib.hid (HBX3.out.below hb_ HBX3.out.lt)
  replace HBX4 := Lib.hid (HBX4.out.below hb_ HBX4.out.lt)
  replace HBX5 := Lib.hid (HBX5.out.below hb_ HBX5.out.lt)
  clear ho9 hr9
  clear hb_
  go_wp2_with fail
  refine (Common_any none none 0 0 0 0 [] [] w9 (Rd.nil _ _ _) (Rd.nil _ _ _) (by decide) (by decide) (by simp)).mono ?_
  rintro e w10 ⟨⟨A10, c10, rfl, hc10, hr10⟩, hb_⟩
  replace H1 := Lib.hid (H1.out.below hb_)
  replace H2 := Lib.hid (H2.out.below hb_)
  replace HB := Lib.hid (HB.out.trans (hb_.mono HB.out.size))
  replace HBX3 := Lib.hid (HBX3.out.below hb_ HBX3.out.lt)
  replace HBX4 := Lib.hid (HBX4.out.below hb_ HBX4.out.lt)
  replace HBX5 := Lib.hid (HBX5.out.below hb_ HBX5.out.lt)
  clear hr10
  clear hb_
  go_wp2_with fail
  go_ret
  exact ⟨rfl, HB.out⟩
end Go.Proofs.Ytcelkneeedebiaa
