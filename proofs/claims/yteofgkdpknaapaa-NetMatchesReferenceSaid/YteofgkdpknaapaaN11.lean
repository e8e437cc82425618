/- The reference's bytes of a signature. -/
import Derived.Test.YteofgkdpknaapaaN03
namespace Go.Proofs.Yteofgkdpknaapaa
open Go.RowKit Go.Sort

set_option maxRecDepth 100000 in
set_option maxHeartbeats 2000000 in
theorem RBytes_any (i : Int) (C D : Option Addr) (n c m d : Nat) (ch pa : List Sum32) (w : World) (hch : Rd w 32 C n (ch.flatMap sumC)) (hpa : Rd w 32 D m (pa.flatMap sumC)) (hn : n ≤ 100000) (hm : m ≤ 100000) :
    Calls Try.prog 48 #[.agg (sgV i C n c D m d).toArray] w fun e w' => (∃ (A' : Option Addr) (c' : Nat), e = .returned (.slice A' (2 + 32 * n + 32 * m) c') ∧ 2 + 32 * n + 32 * m ≤ c' ∧ Rd w' 1 A' (2 + 32 * n + 32 * m) ((bytS ⟨i, ch, pa⟩).map byteV)) ∧ Below w.heap.size w w' := by
  obtain ⟨i0, hi0, hz0, hz1, hz2⟩ := info_parts info5
  have hb1 := b8_wrap i
  have hb2 := b8_wrap (m : Int)
  have hpl := hpa.lenf sumC_len (by omega)
  have HPL := Lib.hid hpl
  clear hpl
  go_enter Try.func48, Try.ntmps48
  go_upto_region 1 with fail
  obtain ⟨w1, hw1⟩ : ∃ v, v = w.alloc (.cells (sgV i C n c D m d).toArray 95) := ⟨_, rfl⟩
  have hB1 : Below w.heap.size w w1 := by rw [hw1]; exact (Below.refl _ _).alloc (Nat.le_refl _) _
  have hX1 : Blk w1 w.heap.size 95 (sgV i C n c D m d).toArray := by rw [hw1]; exact Blk.new _ _ _
  rw [← hw1]
  clear hw1
  have a0 : w1.cell? ⟨w.heap.size, 0, none⟩ = some (.int .i64 i) := by rw [hX1.cell]; rfl
  have a2 : w1.cell? ⟨w.heap.size, 2, none⟩ = some (.slice D m d) := by rw [hX1.cell]; rfl
  go_upto_region 2 with fail
  obtain ⟨w2, hw2⟩ : ∃ v, v = w1.alloc (.cells #[.int .u8 ((b8 i).toNat : Int), .int .u8 ((b8 (m : Int)).toNat : Int)] 5) := ⟨_, rfl⟩
  have hb12 : Below w1.heap.size w1 w2 := by rw [hw2]; exact (Below.refl _ _).alloc (Nat.le_refl _) _
  have hown : AppZ w2 w1.heap.size 5 1 (.slice (some ⟨w1.heap.size, 0, none⟩) 2 2) 2 ((preA i m ch pa 0).map byteV) := by
    rw [hw2]
    exact .inr (World.ownsRow_lit w1 #[byteV (b8 i), byteV (b8 (m : Int))] 2 (Nat.le_refl _) (by unfold maxLen; omega) rfl)
  rw [← hw2]
  clear hw2 a0 a2
  have Hch := Lib.hid (hch.below hB1)
  have Hpa := Lib.hid (hpa.below hB1)
  have HX1 := Lib.hid hX1
  have HB1' := Lib.hid hB1
  have HB1 := Lib.hid hb12
  have Happ1 := Lib.hid hown
  clear hch hpa hX1 hB1 hb12 hown hb1 hb2
  go_upto_region 3 with fail
  go_loopw [3, 4] (fun v3 v4 wr => ∃ j : Nat, v4 = .int .i64 (j : Int) ∧ j ≤ n ∧ AppZ wr w1.heap.size 5 1 v3 (2 + 32 * j) (((preA i m ch pa 0) ++ (ch.take j).flatMap (·.1)).map byteV) ∧ Below w1.heap.size w1 wr) (fun _ v4 _ => n - (intOf v4).toNat)
  case atStart => exact ⟨0, rfl, Nat.zero_le _, by rw [List.take_zero, List.flatMap_nil, List.append_nil]; exact Happ1.out, HB1.out⟩
  case round =>
    obtain ⟨j, rfl, hj, happ, hBi⟩ := hrel
    have c1 : wr.cell? ⟨w.heap.size, 1, none⟩ = some (.slice C n c) := by rw [(HX1.out.below hBi HX1.out.lt).cell]; rfl
    have hr0 := Hch.out.below hBi
    have Hr0 := Lib.hid hr0
    have Happ := Lib.hid happ
    have HBi := Lib.hid hBi
    have hszi := hBi.size
    have hxl := Hch.out.lenf sumC_len (by omega)
    clear happ hBi hr0
    by_cases hlt : j < n
    · have d1 : decide ((j : Int) < (n : Int)) = true := decide_eq_true (by omega)
      have hjn : (j : Int) < (n : Int) := by omega
      have hj0 : (0 : Int) ≤ (j : Int) := by omega
      obtain ⟨cb, co, hAe, _⟩ := Hr0.out.2.2 (by omega)
      obtain ⟨x, hx⟩ : ∃ x, ch[j]? = some x := ⟨_, List.getElem?_eq_getElem (by omega)⟩
      have hxr : wr.rangeAt cb (co + j * 32) (sumC x) := by
        have h := Hr0.out
        rw [hAe] at h
        have := h.range32 hlt
        rwa [List.getD_eq_getElem?_getD, hx] at this
      have Hxr := Lib.hid (show Rd wr 1 (some ⟨cb, co + j * 32, none⟩) 32 (sumC x) from ⟨by rw [sumC_len], by omega, fun _ => ⟨cb, co + j * 32, rfl, hxr⟩⟩)
      have Htk := Lib.hid (show ch.take (j + 1) = ch.take j ++ [x] by rw [List.take_add_one, hx]; rfl)
      subst hAe
      clear hx hxr
      go_wp2_with (at_builtin; refine wpList_appz rfl (.tmp 21) (.tmp 26) 26 rfl 5 i0 (.int .u8 0) 1 1 Try.underlying26 hi0 hz0 hz1 hz2 rfl (by omega) w1.heap.size hszi _ _ _ rfl Happ.out (some ⟨cb, co + j * 32, none⟩) 32 32 (sumC x) rfl Hxr.out (oneB _) (by unfold maxLen; omega) (by omega) ?_; intro v6 w6 happ6 hg6)
      have hb7 := HBi.out.trans ((Below.refl w1.heap.size wr).grown hg6 hszi (fun g e => (Happ.out.lt g e).1))
      refine ⟨⟨j + 1, by go_num, by omega, ?_, hb7⟩, by simp [intOf]; omega⟩
      rw [Htk.out, List.flatMap_append, ← List.append_assoc, List.map_append, show 2 + 32 * (j + 1) = 2 + 32 * j + 32 by omega]
      rw [show [x].flatMap (·.1) = x.1 by simp]
      exact happ6
    · have d1 : decide ((j : Int) < (n : Int)) = false := decide_eq_false (by omega)
      have hjn : j = n := by omega
      rw [hjn] at Happ
      clear hjn
      have hpre : ((preA i m ch pa 0) ++ (ch.take n).flatMap (·.1)) = (preA i m ch pa 1) := by rw [List.take_of_length_le (by omega)]; rfl
      rw [hpre] at Happ
      clear hpre
      go_upto_region 7 with fail
      obtain ⟨wo, hwo⟩ : ∃ wo, wo = wr := ⟨_, rfl⟩
      subst hwo
      clear c1 d1 hlt hszi hxl Hr0
      go_loopw [3, 5] (fun v3 v5 wr => ∃ j : Nat, v5 = .int .i64 (j : Int) ∧ j ≤ m ∧ AppZ wr w1.heap.size 5 1 v3 ((2 + 32 * n) + 32 * j) (((preA i m ch pa 1) ++ (pa.take j).flatMap (·.1)).map byteV) ∧ Below w1.heap.size w1 wr) (fun _ v5 _ => m - (intOf v5).toNat)
      case atStart => exact ⟨0, rfl, Nat.zero_le _, by rw [List.take_zero, List.flatMap_nil, List.append_nil]; exact Happ.out, HBi.out⟩
      case round =>
        obtain ⟨j, rfl, hj, happ, hBi⟩ := hrel
        have c2 : wr.cell? ⟨w.heap.size, 2, none⟩ = some (.slice D m d) := by rw [(HX1.out.below hBi HX1.out.lt).cell]; rfl
        have hr0 := Hpa.out.below hBi
        have Hr0 := Lib.hid hr0
        have Happ := Lib.hid happ
        have HBi := Lib.hid hBi
        have hszi := hBi.size
        have hxl := Hpa.out.lenf sumC_len (by omega)
        clear happ hBi hr0
        by_cases hlt : j < m
        · have d1 : decide ((j : Int) < (m : Int)) = true := decide_eq_true (by omega)
          have hjn : (j : Int) < (m : Int) := by omega
          have hj0 : (0 : Int) ≤ (j : Int) := by omega
          obtain ⟨cb, co, hAe, _⟩ := Hr0.out.2.2 (by omega)
          obtain ⟨x, hx⟩ : ∃ x, pa[j]? = some x := ⟨_, List.getElem?_eq_getElem (by omega)⟩
          have hxr : wr.rangeAt cb (co + j * 32) (sumC x) := by
            have h := Hr0.out
            rw [hAe] at h
            have := h.range32 hlt
            rwa [List.getD_eq_getElem?_getD, hx] at this
          have Hxr := Lib.hid (show Rd wr 1 (some ⟨cb, co + j * 32, none⟩) 32 (sumC x) from ⟨by rw [sumC_len], by omega, fun _ => ⟨cb, co + j * 32, rfl, hxr⟩⟩)
          have Htk := Lib.hid (show pa.take (j + 1) = pa.take j ++ [x] by rw [List.take_add_one, hx]; rfl)
          subst hAe
          clear hx hxr
          go_wp2_with (at_builtin; refine wpList_appz rfl (.tmp 35) (.tmp 40) 26 rfl 5 i0 (.int .u8 0) 1 1 Try.underlying26 hi0 hz0 hz1 hz2 rfl (by omega) w1.heap.size hszi _ _ _ rfl Happ.out (some ⟨cb, co + j * 32, none⟩) 32 32 (sumC x) rfl Hxr.out (oneB _) (by unfold maxLen; omega) (by omega) ?_; intro v6 w6 happ6 hg6)
          have hb7 := HBi.out.trans ((Below.refl w1.heap.size wr).grown hg6 hszi (fun g e => (Happ.out.lt g e).1))
          refine ⟨⟨j + 1, by go_num, by omega, ?_, hb7⟩, by simp [intOf]; omega⟩
          rw [Htk.out, List.flatMap_append, ← List.append_assoc, List.map_append, show (2 + 32 * n) + 32 * (j + 1) = (2 + 32 * n) + 32 * j + 32 by omega]
          rw [show [x].flatMap (·.1) = x.1 by simp]
          exact happ6
        · have d1 : decide ((j : Int) < (m : Int)) = false := decide_eq_false (by omega)
          have hjn : j = m := by omega
          rw [hjn] at Happ
          clear hjn
          have hpre : ((preA i m ch pa 1) ++ (pa.take m).flatMap (·.1)) = (preA i m ch pa 2) := by rw [List.take_of_length_le (by omega)]; rfl
          rw [hpre] at Happ
          clear hpre
          obtain ⟨A', c', rfl, hc', hR⟩ := Happ.out.rd
          have HR := Lib.hid hR
          have HBz := Lib.hid (HB1'.out.trans (HBi.out.mono HB1'.out.size))
          clear hR
          go_wp2_with fail
          go_ret
          refine ⟨⟨A', c', rfl, hc', ?_⟩, HBz.out⟩
          have : bytS ⟨i, ch, pa⟩ = preA i m ch pa 2 := by
            show b8 i :: b8 (pa.length : Int) :: (ch.flatMap (·.1) ++ pa.flatMap (·.1)) = [b8 i, b8 (m : Int)] ++ ch.flatMap (·.1) ++ pa.flatMap (·.1)
            rw [HPL.out, List.append_assoc]; rfl
          rw [this]
          exact HR.out
end Go.Proofs.Yteofgkdpknaapaa
