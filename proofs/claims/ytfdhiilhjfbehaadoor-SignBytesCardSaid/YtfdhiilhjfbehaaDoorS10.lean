/- Package sign: the digits of a body. -/
import Derived.Test.YtfdhiilhjfbehaaDoorS9
namespace Go.Proofs.YtfdhiilhjfbehaaDoor
open Go.RowKit Go.Sort

theorem info67 : (Tryd.prog.info? 73).map (fun i => (i.zero, i.size, i.bytes)) = some (some (.agg (List.replicate 67 (natV 0)).toArray), 67, 536) := by kernel_rfl
theorem und67 : Tryd.prog.underlying 73 = some (.array 67 3) := by kernel_rfl
theorem size67 : (Tryd.prog.info? 73).map (·.size) = some 67 := by kernel_rfl
theorem und3i : Tryd.prog.underlying 3 = some (.int .i64) := by kernel_rfl
theorem cells3i : Tryd.prog.cellsOf 3 = 1 := by kernel_rfl
theorem cells5i : Tryd.prog.cellsOf 5 = 1 := by kernel_rfl
theorem run_index_int (E : TypeId) (k : IntKind) (hE : Tryd.prog.underlying E = some (.int k)) (hc : Tryd.prog.cellsOf E = 1) (xs : List Int) (T n : Nat) (hT : Tryd.prog.underlying T = some (.array n E)) (hl : xs.length = n) (t : Nat) (x : Int) (hx : xs[t]? = some x) (w : World) :
    (Instr.index T (.agg (xs.map (Value.int k)).toArray) (.int .i64 (t : Int))).run Tryd.prog w = .ok (.int k x) w := by
  have ht : t < n := by rw [← hl]; exact (List.getElem?_eq_some_iff.1 hx).1
  obtain ⟨i, hi⟩ := info_of_underlying hE
  have hs : i.size = 1 := by have := hc; unfold Program.cellsOf at this; rw [hi] at this; simpa using this
  unfold Instr.index
  simp only [asIntOf, Sem.run_bind, Sem.run_pure, Result.andThen_ok, run_underlying hT]
  rw [if_pos ⟨by omega, by omega⟩]
  simp only [Sem.run_bind, run_sizeOf w hi, Result.andThen_ok, hc, Int.toNat_natCast, Nat.mul_one]
  exact run_part_int w E k hE xs t x hx
theorem run_index_sum (D : Sum32) (t : Nat) (b : UInt8) (hb : D.1[t]? = some b) (w : World) :
    (Instr.index 26 (.agg (sumC D).toArray) (.int .i64 (t : Int))).run Tryd.prog w = .ok (.int .u8 (b.toNat : Int)) w := by
  have h := run_index_int 5 .u8 und5s cells5i (D.1.map fun b => (b.toNat : Int)) 26 32 und32 (by rw [List.length_map]; exact D.2) t (b.toNat : Int) (by rw [List.getElem?_map, hb]; rfl) w
  rw [List.map_map] at h
  exact h
theorem run_index_67 (ds : List Nat) (hl : ds.length = 67) (t : Nat) (d : Nat) (hd : ds[t]? = some d) (w : World) :
    (Instr.index 73 (.agg (ds.map natV).toArray) (.int .i64 (t : Int))).run Tryd.prog w = .ok (.int .i64 (d : Int)) w := by
  have h := run_index_int 3 .i64 und3i cells3i (ds.map fun d : Nat => (d : Int)) 73 67 und67 (by rw [List.length_map]; exact hl) t (d : Int) (by rw [List.getElem?_map, hd]; rfl) w
  rw [List.map_map] at h
  exact h
theorem blk_set {W : World} {B : Nat} {T : TypeId} {l r : List Value} {a : Value} {i : Nat} (h : Blk W B T (l ++ a :: r).toArray) (hi : l.length = i) (v : Value) : Blk (W.setCell ⟨B, i, none⟩ v) B T (l ++ v :: r).toArray := by
  unfold Blk at *
  rw [heap_setCell_same W B i _ T v h, List.setIfInBounds_toArray, set_mid hi]
theorem blk_old {W : World} {B : Nat} {T : TypeId} {l r : List Value} {a : Value} {i : Nat} (h : Blk W B T (l ++ a :: r).toArray) (hi : l.length = i) : W.cell? ⟨B, i, none⟩ = some a := by
  rw [h.cell, List.getElem?_toArray, ← hi, List.getElem?_append_right (Nat.le_refl _), Nat.sub_self]; rfl

theorem i64_and15 (n : Int) : bits .and .i64 n 15 = n % 16 := by
  have h15 : (BitVec.ofInt 64 15).toNat = 2 ^ 4 - 1 := by decide
  have key : (BitVec.ofInt 64 n &&& BitVec.ofInt 64 15).toNat = (n % ((2 ^ 64 : Nat) : Int)).toNat % 2 ^ 4 := by
    rw [BitVec.toNat_and, BitVec.toNat_ofInt, h15, Nat.and_two_pow_sub_one_eq_mod]
  show IntKind.i64.wrap ((BitVec.ofInt 64 n &&& BitVec.ofInt 64 15).toNat : Nat) = n % 16
  rw [key, IntKind.wrap_i64]
  omega
set_option maxRecDepth 100000 in
set_option maxHeartbeats 1000000 in
theorem digits_any (A : Option Addr) (len cap : Nat) (bs : List UInt8) (w : World) (hg : Globs w) (hr : Rd w 1 A len (bs.map byteV)) (hlen : len ≤ 8796093021000) :
    Calls Tryd.prog 43 #[.slice A len cap] w fun e w' => e = .returned (.agg ((digS bs).map natV).toArray) ∧ Below w.heap.size w w' := by
  obtain ⟨i0, hi0, hz0, hz1, hz2⟩ := info_parts info5
  obtain ⟨i67, hi67, hz67, _, _⟩ := info_parts info67
  have hl := hr.len1
  have h1 := oneB bs
  go_enter Tryd.func43, Tryd.ntmps43
  go_upto_region 3 with (refine wpList_alloc0 rfl 73 rfl (List.replicate 67 (natV 0)).toArray _ i67 hi67 hz67 rfl ?_; simp only [Act.put, List.setIfInBounds_toArray, List.set_cons_succ, List.set_cons_zero])
  obtain ⟨w1, hw1⟩ : ∃ v, v = (w.alloc (.cells (List.replicate 67 (natV 0)).toArray 73)).alloc (.cells (List.replicate 67 (natV 0)).toArray 73) := ⟨_, rfl⟩
  have hB1 : Below w.heap.size w w1 := by rw [hw1]; exact ((Below.refl _ _).alloc (Nat.le_refl _) _).alloc (by simp) _
  have hX1 : Blk w1 w.heap.size 73 (List.replicate 67 (natV 0)).toArray := by rw [hw1]; exact (Blk.new _ _ _).alloc _
  have hZ1 : Blk w1 (w.heap.size + 1) 73 (List.replicate 67 (natV 0)).toArray := by
    have := Blk.new (w.alloc (.cells (List.replicate 67 (natV 0)).toArray 73)) 73 (List.replicate 67 (natV 0)).toArray
    rw [World.size_alloc] at this
    rw [hw1]; exact this
  rw [← hw1]
  clear hw1
  rw [World.size_alloc]
  have hg1 := hg.below hB1
  have hr1 := hr.below hB1
  have hsz1 := hB1.size
  have HB1 := Lib.hid hB1
  have HX1 := Lib.hid hX1
  have HZ1 := Lib.hid hZ1
  clear hB1 hX1 hZ1 hr
  go_wp2_with (at_builtin; refine wpList_app rfl (.tmp 8) (.tmp 9) 22 rfl 5 i0 (.int .u8 0) 1 Tryd.underlying22 hi0 hz0 hz1 hz2 rfl w1.heap.size (by simp) _ 1 _ rfl (.inr (own_lit w1 5 (.int .u8 4))) A len cap (bs.map byteV) rfl (hr1.alloc _) h1 (by unfold maxLen; omega) (by omega) ?_; intro v' w2 happ hb1; obtain ⟨A1, c1, rfl, hc1, hrd1⟩ := happ.rd)
  have hb2 : Below w1.heap.size w1 w2 := ((Below.refl _ _).alloc (Nat.le_refl _) _).trans hb1
  refine (Sum_any A1 (1 + len) c1 (4 :: bs) w2 (hg1.below hb2) hrd1 (by omega) hc1).mono ?_
  rintro e w3 ⟨rfl, hb3⟩
  have hb13 := hb2.trans (hb3.mono hb2.size)
  have HX3 := Lib.hid (HX1.out.below hb13 HX1.out.lt)
  have HZ3 := Lib.hid (HZ1.out.below hb13 HZ1.out.lt)
  have HB3 := Lib.hid (HB1.out.trans (hb13.mono hsz1))
  obtain ⟨D, hD⟩ : ∃ D, D = shaS (4 :: bs) := ⟨_, rfl⟩
  have hV : sumV (sha (4 :: bs)) = .agg (sumC D).toArray := by rw [hD]; rfl
  rw [hV]
  have hdig : digS bs = digB D.1 := by rw [hD]; rfl
  have Hdig := Lib.hid hdig
  have hDl : D.1.length = 32 := D.2
  have hsz3 := HB3.out.size
  clear hD hV hdig hb1 happ hrd1 hb2 hb3 hb13 hr1 hg1 hg h1 hl HX1 HZ1 HB1
  go_wp2_with fail
  go_loopw [4, 5, 6, 12] (fun v4 v5 v6 v12 wr => ∃ i : Nat, v12 = .int .i64 (i : Int) ∧ i ≤ 32 ∧ v4 = .int .i64 (lackL (D.1.take i) : Int) ∧ Blk wr w.heap.size 73 (List.replicate 67 (natV 0)).toArray ∧ Blk wr (w.heap.size + 1) 73 (((D.1.take i).flatMap two_).map natV ++ List.replicate (67 - 2 * i) (natV 0)).toArray ∧ Below w.heap.size w wr) (fun _ _ _ v12 _ => 32 - (intOf v12).toNat)
  case atStart => exact ⟨0, rfl, by omega, rfl, HX3.out, HZ3.out, HB3.out⟩
  case round =>
    obtain ⟨i, rfl, hi, rfl, hX, hZ, hBr⟩ := hrel
    have HX := Lib.hid hX
    have HZ := Lib.hid hZ
    have HBr := Lib.hid hBr
    have hszr := hBr.size
    clear hX hZ hBr HX3 HZ3 HB3
    by_cases hlt : i < 32
    · have d0 : decide ((i : Int) < 32) = true := decide_eq_true (by omega)
      obtain ⟨b, hb⟩ : ∃ b, D.1[i]? = some b := ⟨_, List.getElem?_eq_getElem (by rw [hDl]; exact hlt)⟩
      have hix := run_index_sum D i b hb
      have htk : D.1.take (i + 1) = D.1.take i ++ [b] := by rw [List.take_add_one, hb]; rfl
      have hbl := b.toNat_lt
      have hll : lackL (D.1.take i) ≤ 960 := Nat.le_trans (lackL_le 32 _ (by rw [List.length_take]; omega)) (by omega)
      have hfl : (((D.1.take i).flatMap two_).map natV).length = 2 * i := by rw [List.length_map, two_len, List.length_take]; omega
      have Hpl := Lib.hid (show lackL (D.1.take (i + 1)) = lackL (D.1.take i) + (30 - b.toNat / 16 - b.toNat % 16) by rw [htk, lackL_snoc, lack])
      have Htk := Lib.hid htk
      clear hb htk
      obtain ⟨P, hP⟩ : ∃ P, P = ((D.1.take i).flatMap two_).map natV := ⟨_, rfl⟩
      obtain ⟨R, hR⟩ : ∃ R, R = List.replicate (65 - 2 * i) (natV 0) := ⟨_, rfl⟩
      have hZ1 : Blk wr (w.heap.size + 1) 73 (P ++ natV 0 :: natV 0 :: R).toArray := by
        have := HZ.out
        rw [show 67 - 2 * i = (65 - 2 * i) + 1 + 1 from by omega, List.replicate_succ, List.replicate_succ] at this
        rw [hP, hR]; exact this
      rw [← hP] at hfl
      have o1 : wr.cell? ⟨w.heap.size + 1, 2 * i, none⟩ = some (.int .i64 0) := blk_old hZ1 hfl
      have f1 := hZ1.frozen (2 * i)
      have hZ2 : ∀ v, Blk (wr.setCell ⟨w.heap.size + 1, 2 * i, none⟩ v) (w.heap.size + 1) 73 ((P ++ [v]) ++ natV 0 :: R).toArray := fun v => by
        have := blk_set hZ1 hfl v
        rwa [show P ++ v :: natV 0 :: R = (P ++ [v]) ++ natV 0 :: R from by simp] at this
      have o2 : ∀ v, (wr.setCell ⟨w.heap.size + 1, 2 * i, none⟩ v).cell? ⟨w.heap.size + 1, 2 * i + 1, none⟩ = some (.int .i64 0) := fun v => blk_old (hZ2 v) (by rw [List.length_append, hfl]; rfl)
      have f2 := fun v => (hZ2 v).frozen (2 * i + 1)
      have HP := Lib.hid hP
      have HR := Lib.hid hR
      have HZ1 := Lib.hid hZ1
      have HZ2 := Lib.hid hZ2
      have Hfl := Lib.hid hfl
      clear hP hR hZ1 hZ2 hfl HZ
      have j1 : wrap64 (2 * (i : Int)) = 2 * (i : Int) := by unfold wrap64; omega
      have j2 : wrap64 (2 * (i : Int) + 1) = 2 * (i : Int) + 1 := by unfold wrap64; omega
      have j3 : 2 * (i : Int) < 67 := by omega
      have j4 : 2 * (i : Int) + 1 < 67 := by omega
      have j5 : (0 : Int) ≤ 2 * (i : Int) := by omega
      have j6 : (0 : Int) ≤ 2 * (i : Int) + 1 := by omega
      go_upto_region 6 with fail
      go_wp2_with fail
      obtain ⟨w4, hw4⟩ : ∃ v, v = (wr.setCell ⟨w.heap.size + 1, 2 * i, none⟩ (.int .i64 ((b.toNat : Int) / 16))).setCell ⟨w.heap.size + 1, 2 * i + 1, none⟩ (.int .i64 ((b.toNat : Int) % 16)) := ⟨_, rfl⟩
      have hZ4 : Blk w4 (w.heap.size + 1) 73 ((P ++ [natV (b.toNat / 16)]) ++ natV (b.toNat % 16) :: R).toArray := by
        rw [hw4]; exact blk_set (HZ2.out _) (by rw [List.length_append, Hfl.out]; rfl) _
      have hB4 : Below w.heap.size w w4 := by rw [hw4]; exact (HBr.out.setCell (by simp) _).setCell (by simp) _
      have hX4 : Blk w4 w.heap.size 73 (List.replicate 67 (natV 0)).toArray := by
        rw [hw4]
        have hk := ((KeptIn.refl (fun k => k ≠ w.heap.size + 1) wr).setAt (p := ⟨w.heap.size + 1, 2 * i, none⟩) (fun h => h rfl) (.int .i64 ((b.toNat : Int) / 16))).setAt (p := ⟨w.heap.size + 1, 2 * i + 1, none⟩) (fun h => h rfl) (.int .i64 ((b.toNat : Int) % 16))
        exact HX.out.keptIn hk (show w.heap.size ≠ w.heap.size + 1 by omega)
      rw [← hw4]
      have c1 : w4.cell? ⟨w.heap.size + 1, 2 * i, none⟩ = some (.int .i64 ((b.toNat : Int) / 16)) := by
        have := hZ4
        rw [show (P ++ [natV (b.toNat / 16)]) ++ natV (b.toNat % 16) :: R = P ++ natV (b.toNat / 16) :: natV (b.toNat % 16) :: R from by simp] at this
        exact blk_old this Hfl.out
      have c2 : w4.cell? ⟨w.heap.size + 1, 2 * i + 1, none⟩ = some (.int .i64 ((b.toNat : Int) % 16)) := blk_old hZ4 (by rw [List.length_append, Hfl.out]; rfl)
      have HZ4 := Lib.hid hZ4
      have HB4 := Lib.hid hB4
      have HX4 := Lib.hid hX4
      clear hw4 hZ4 hB4 hX4 o1 o2 f1 f2 HZ2 HZ1 HX
      have e3 : IntKind.i64.wrap (30 - (b.toNat : Int) / 16) = 30 - (b.toNat : Int) / 16 := by simp [IntKind.wrap, IntKind.bits, IntKind.signed]; omega
      have e4 : IntKind.i64.wrap (30 - (b.toNat : Int) / 16 - (b.toNat : Int) % 16) = 30 - (b.toNat : Int) / 16 - (b.toNat : Int) % 16 := by simp [IntKind.wrap, IntKind.bits, IntKind.signed]; omega
      have e5 : IntKind.i64.wrap ((lackL (D.1.take i) : Int) + (30 - (b.toNat : Int) / 16 - (b.toNat : Int) % 16)) = ((lackL (D.1.take (i + 1)) : Nat) : Int) := by rw [Hpl.out]; simp [IntKind.wrap, IntKind.bits, IntKind.signed]; omega
      have e6 : IntKind.i64.wrap (2 * (i : Int)) = 2 * (i : Int) := by simp [IntKind.wrap, IntKind.bits, IntKind.signed]; omega
      have e7 : IntKind.i64.wrap (2 * (i : Int) + 1) = 2 * (i : Int) + 1 := by simp [IntKind.wrap, IntKind.bits, IntKind.signed]; omega
      go_quiet (fail)
      go_wp2_with fail
      have hb4 := below_drewN (Below.refl w4.heap.size w4) nq
      refine ⟨⟨i + 1, by push_cast; rfl, by omega, rfl, HX4.out.below hb4 HX4.out.lt, ?_, below_drewN HB4.out _⟩, by simp only [intOf]; omega⟩
      have hx : ((D.1.take (i + 1)).flatMap two_).map natV ++ List.replicate (67 - 2 * (i + 1)) (natV 0) = (P ++ [natV (b.toNat / 16)]) ++ natV (b.toNat % 16) :: R := by
        rw [Htk.out, List.flatMap_append, List.map_append, HP.out, HR.out, show 67 - 2 * (i + 1) = 65 - 2 * i from by omega, List.append_assoc, List.append_assoc]; rfl
      rw [hx]
      exact HZ4.out.below hb4 HZ4.out.lt
    · have d0 : decide ((i : Int) < 32) = false := decide_eq_false (by omega)
      obtain rfl : i = 32 := by omega
      obtain ⟨L, hL⟩ : ∃ L, L = lackL (D.1.take 32) := ⟨_, rfl⟩
      have hLl : L ≤ 960 := by rw [hL]; exact Nat.le_trans (lackL_le 32 _ (by rw [List.length_take]; omega)) (by omega)
      have htk : D.1.take 32 = D.1 := List.take_of_length_le (by omega)
      obtain ⟨P, hP⟩ : ∃ P, P = ((D.1.take 32).flatMap two_).map natV := ⟨_, rfl⟩
      have Hfl := Lib.hid (show P.length = 64 by rw [hP, List.length_map, two_len, List.length_take]; omega)
      have Hdd := Lib.hid (show (digS bs).map natV = P ++ [natV (L / 256), natV (L / 16 % 16), natV (L % 16)] by rw [Hdig.out, hL, hP, htk]; unfold digB; rw [List.map_append]; rfl)
      have hZ0 := HZ.out
      rw [← hP] at hZ0
      have HZ0 := Lib.hid (show Blk wr (w.heap.size + 1) 73 (P ++ [natV 0, natV 0, natV 0]).toArray from hZ0)
      have HX0 := HX
      have HB0 := HBr
      rw [← hL]
      clear hL htk hP hZ0 HZ HX HBr Hdig hDl
      go_wp2_with fail
      go_loopw [4, 7] (fun v4 v7 wr => ∃ (C : List Value), Blk wr w.heap.size 73 (List.replicate 67 (natV 0)).toArray ∧ Blk wr (w.heap.size + 1) 73 (P ++ C).toArray ∧ Below w.heap.size w wr ∧ ((v7 = .int .i64 66 ∧ v4 = .int .i64 (L : Int) ∧ C = [natV 0, natV 0, natV 0]) ∨ (v7 = .int .i64 65 ∧ v4 = .int .i64 ((L / 16 : Nat) : Int) ∧ C = [natV 0, natV 0, natV (L % 16)]) ∨ (v7 = .int .i64 64 ∧ v4 = .int .i64 ((L / 256 : Nat) : Int) ∧ C = [natV 0, natV (L / 16 % 16), natV (L % 16)]) ∨ (v7 = .int .i64 63 ∧ C = [natV (L / 256), natV (L / 16 % 16), natV (L % 16)]))) (fun _ v7 _ => (intOf v7).toNat)
      case atStart => exact ⟨_, HX0.out, HZ0.out, HB0.out, .inl ⟨rfl, rfl, rfl⟩⟩
      case round =>
        obtain ⟨C, hX, hZ, hBr, hcase⟩ := hrel
        have HX := Lib.hid hX
        have HBr := Lib.hid hBr
        clear hX hBr HX0 HZ0 HB0
        rcases hcase with ⟨rfl, rfl, rfl⟩ | ⟨rfl, rfl, rfl⟩ | ⟨rfl, rfl, rfl⟩ | ⟨rfl, rfl⟩
        · have hz : Blk wr (w.heap.size + 1) 73 ((P ++ [natV 0, natV 0]) ++ natV 0 :: []).toArray := by
            rw [List.append_assoc]; exact hZ
          have o1 : wr.cell? ⟨w.heap.size + 1, 66, none⟩ = some (.int .i64 0) := blk_old hz (by rw [List.length_append, Hfl.out]; rfl)
          have f1 := hz.frozen 66
          have hn := blk_set hz (i := 66) (by rw [List.length_append, Hfl.out]; rfl) (natV (L % 16))
          rw [List.append_assoc] at hn
          have hk := (KeptIn.refl (fun k => k ≠ w.heap.size + 1) wr).setAt (p := ⟨w.heap.size + 1, 66, none⟩) (fun h => h rfl) (natV (L % 16))
          have Hn := Lib.hid hn
          have Hk := Lib.hid hk
          clear hz hn hk hZ
          have m1 : (L : Nat) % 16 = L % 16 := by omega
          have m2 : (L : Nat) / 16 = L / 16 := by omega
          have a15 : bits .and .i64 ((L : Int)) 15 = ((L % 16 : Nat) : Int) := by rw [i64_and15]; omega
          go_wp2_with fail
          try rw [a15]
          refine ⟨⟨_, HX.out.keptIn Hk.out (show w.heap.size ≠ w.heap.size + 1 by omega), Hn.out, HBr.out.setCell (by simp) _, .inr (.inl ⟨rfl, rfl, rfl⟩)⟩, by simp [intOf]⟩
        · have hz : Blk wr (w.heap.size + 1) 73 ((P ++ [natV 0]) ++ natV 0 :: [natV (L % 16)]).toArray := by
            rw [List.append_assoc]; exact hZ
          have o1 : wr.cell? ⟨w.heap.size + 1, 65, none⟩ = some (.int .i64 0) := blk_old hz (by rw [List.length_append, Hfl.out]; rfl)
          have f1 := hz.frozen 65
          have hn := blk_set hz (i := 65) (by rw [List.length_append, Hfl.out]; rfl) (natV (L / 16 % 16))
          rw [List.append_assoc] at hn
          have hk := (KeptIn.refl (fun k => k ≠ w.heap.size + 1) wr).setAt (p := ⟨w.heap.size + 1, 65, none⟩) (fun h => h rfl) (natV (L / 16 % 16))
          have Hn := Lib.hid hn
          have Hk := Lib.hid hk
          clear hz hn hk hZ
          have m1 : (L / 16 : Nat) % 16 = L / 16 % 16 := by omega
          have m2 : (L / 16 : Nat) / 16 = L / 256 := by omega
          have a15 : bits .and .i64 ((L : Int) / 16) 15 = ((L / 16 % 16 : Nat) : Int) := by rw [i64_and15]; omega
          go_wp2_with fail
          have hnx : (L : Int) / 16 / 16 = ((L / 256 : Nat) : Int) := by omega
          try rw [a15]
          refine ⟨⟨_, HX.out.keptIn Hk.out (show w.heap.size ≠ w.heap.size + 1 by omega), Hn.out, HBr.out.setCell (by simp) _, .inr (.inr (.inl ⟨rfl, by rw [hnx], rfl⟩))⟩, by simp [intOf]⟩
        · have hz : Blk wr (w.heap.size + 1) 73 ((P ++ []) ++ natV 0 :: [natV (L / 16 % 16), natV (L % 16)]).toArray := by
            rw [List.append_assoc]; exact hZ
          have o1 : wr.cell? ⟨w.heap.size + 1, 64, none⟩ = some (.int .i64 0) := blk_old hz (by rw [List.length_append, Hfl.out]; rfl)
          have f1 := hz.frozen 64
          have hn := blk_set hz (i := 64) (by rw [List.length_append, Hfl.out]; rfl) (natV (L / 256))
          rw [List.append_assoc] at hn
          have hk := (KeptIn.refl (fun k => k ≠ w.heap.size + 1) wr).setAt (p := ⟨w.heap.size + 1, 64, none⟩) (fun h => h rfl) (natV (L / 256))
          have Hn := Lib.hid hn
          have Hk := Lib.hid hk
          clear hz hn hk hZ
          have m1 : (L / 256 : Nat) % 16 = L / 256 := by omega
          have m2 : (L / 256 : Nat) / 16 = L / 4096 := by omega
          have a15 : bits .and .i64 ((L : Int) / 256) 15 = ((L / 256 : Nat) : Int) := by rw [i64_and15]; omega
          go_wp2_with fail
          try rw [a15]
          refine ⟨⟨_, HX.out.keptIn Hk.out (show w.heap.size ≠ w.heap.size + 1 by omega), Hn.out, HBr.out.setCell (by simp) _, .inr (.inr (.inr ⟨rfl, rfl⟩))⟩, by simp [intOf]⟩
        · have HZ := Lib.hid hZ
          have Hrg := Lib.hid (Blk.range hZ)
          have Hvl := Lib.hid (show (P ++ [natV (L / 256), natV (L / 16 % 16), natV (L % 16)]).length = 67 by rw [List.length_append, Hfl.out]; rfl)
          rw [← Hdd.out] at hZ
          have Hone := Lib.hid (oneN (digS bs))
          have Hdg := Hdd.out
          have HV := Lib.hid (show ((digS bs).map natV).length = 67 by rw [Hdd.out]; exact Hvl.out)
          have Hrg2 := Lib.hid (Blk.range hZ)
          clear hZ Hrg Hvl Hdg Hdd
          obtain ⟨V, hV⟩ : ∃ V, V = (digS bs).map natV := ⟨_, rfl⟩
          rw [← hV] at HV Hrg2 Hone
          have Hv := Lib.hid hV
          clear hV
          go_wp2_with (first | (refine wpList_load_mid rfl 73 (.tmp 3) rfl (w.heap.size + 1) 0 rfl V _ Hrg2.out und67 rfl (by rw [HV.out]; kernel_rfl) ?_) | (refine wpList_store_row rfl 73 (.tmp 2) (.tmp 53) rfl (w.heap.size) V.toArray rfl rfl 73 _ HX.out (by rw [List.size_toArray, HV.out]; kernel_rfl) (by rw [List.size_toArray, List.size_toArray, HV.out]; rfl) (all_oneCell_toArray Hone.out) ?_))
          refine bodyPost_ret (results_cell_row rfl _ _ w.heap.size 73 _ (0, 0) _ rfl (setRow_heap _ _ _ _ _ _ HX.out) und67 rfl (by rw [List.size_toArray, HV.out]; kernel_rfl)) rfl ⟨by rw [Hv.out], Below.setRow HBr.out (by omega) _⟩
end Go.Proofs.YtfdhiilhjfbehaaDoor
