/- Package net: Bytes, its closure. -/
import Derived.Test.YteofgkdpknaapaaN12
namespace Go.Proofs.Yteofgkdpknaapaa
open Go.RowKit Go.Sort

/-- A slice of bytes that a variable holds, and that is the call's own. -/
def Out (w : World) (base ob L : Nat) (bs : List UInt8) : Prop := ∃ v, Blk w ob 26 #[v] ∧ AppZ w base 5 1 v L (bs.map byteV)
theorem two_mod1 (n : Nat) : ((n : Int) / 256) % 256 = ((UInt8.ofNat (n / 256)).toNat : Int) := by
  rw [UInt8.toNat_ofNat']; omega
theorem two_mod2 (n : Nat) : (n : Int) % 256 = ((UInt8.ofNat n).toNat : Int) := by rw [UInt8.toNat_ofNat']; omega
/-- A slice of bytes is laid. -/
theorem lay_bytes (w : World) (bs : List UInt8) (h : bs.length ≤ 1000) : ∃ w', w' = w.alloc (.cells (bs.map byteV).toArray 5) ∧ Below w.heap.size w w' ∧ Rd w' 1 (some ⟨w.heap.size, 0, none⟩) bs.length (bs.map byteV) := by
  refine ⟨_, rfl, (Below.refl _ _).alloc (Nat.le_refl _) _, ?_⟩
  have := (Blk.new w 5 (bs.map byteV).toArray).rd (by simp; omega)
  rwa [List.length_map] at this
set_option maxRecDepth 100000 in
set_option maxHeartbeats 1000000 in
theorem List_any (base ob L : Nat) (pre bs : List UInt8) (A : Option Addr) (n c m : Nat) (w : World) (hO : Out w base ob L pre) (hL : L ≤ 100000) (hL0 : 0 < L) (hbo : base ≤ ob) (hr : Rd w 1 A n (bs.map byteV)) (hA : 0 < n → ∀ b off, A = some ⟨b, off, none⟩ → b < base) (hn : n ≤ 100000) (_hm : m ≤ 100000) :
    Calls Try.prog 45 #[.slice A n c, .int .i64 (m : Int), .pointer (some ⟨ob, 0, none⟩)] w fun e w' => e = .returned (.tuple #[]) ∧ Out w' base ob (L + (n + 3)) (pre ++ lstB bs m) ∧ Below base w w' := by
  obtain ⟨i0, hi0, hz0, hz1, hz2⟩ := info_parts info5
  obtain ⟨v, hB, ha⟩ := hO
  have hob := hB.lt
  have c0 : w.cell? ⟨ob, 0, none⟩ = some v := by rw [hB.cell]; rfl
  obtain ⟨A1, c1, rfl, hc1, _⟩ := ha.rd
  obtain ⟨x1, hx1⟩ : ∃ x, x = UInt8.ofNat (n / 256) := ⟨_, rfl⟩
  obtain ⟨x2, hx2⟩ : ∃ x, x = UInt8.ofNat n := ⟨_, rfl⟩
  obtain ⟨x3, hx3⟩ : ∃ x, x = UInt8.ofNat m := ⟨_, rfl⟩
  have hw1 := two_mod1 n
  have hw2 := two_mod2 n
  have hw3 := two_mod2 m
  rw [← hx1] at hw1
  rw [← hx2] at hw2
  rw [← hx3] at hw3
  have Hx := Lib.hid (show lstB bs m = [x1, x2] ++ (bs ++ [x3]) by unfold lstB two; rw [hr.len1, hx1, hx2, hx3])
  clear hx1 hx2 hx3
  have hwb : base ≤ w.heap.size := by omega
  obtain ⟨w1, hw1e⟩ : ∃ q, q = w.alloc (.cells #[.int .u8 (x1.toNat : Int), .int .u8 (x2.toNat : Int)] 5) := ⟨_, rfl⟩
  have hb1 : Below w.heap.size w w1 := by rw [hw1e]; exact (Below.refl _ _).alloc (Nat.le_refl _) _
  have hX1 : Blk w1 w.heap.size 5 ([x1, x2].map byteV).toArray := by rw [hw1e]; exact Blk.new _ _ _
  have Hx1 := Lib.hid (show Rd w1 1 (some ⟨w.heap.size, 0, none⟩) 2 ([x1, x2].map byteV) from hX1.rd (by simp))
  have Ha1 := Lib.hid (ha.below hb1 (Nat.le_refl _))
  have HB1 := Lib.hid (hB.below hb1 hob)
  have hs1 : base ≤ w1.heap.size := by have := hb1.size; omega
  have HW1 := Lib.hid hw1e
  have Hr := Lib.hid hr
  have Hb1 := Lib.hid (hb1.mono hwb)
  clear hB ha hr hX1 hb1 hw1e
  go_enter Try.func45, Try.ntmps45
  go_upto_region 1 with (at_builtin; rw [← HW1.out]; refine wpList_appz rfl (.tmp 5) (.tmp 13) 26 rfl 5 i0 (.int .u8 0) 1 1 Try.underlying26 hi0 hz0 hz1 hz2 rfl (by omega) base hs1 _ _ _ rfl Ha1.out (some ⟨w.heap.size, 0, none⟩) 2 2 ([x1, x2].map byteV) rfl Hx1.out (oneB _) (by unfold maxLen; omega) (by omega) ?_; intro v2 w2 ha2 hg2; obtain ⟨A2, k2, rfl, hk2, _⟩ := ha2.rd; have hB2 := HB1.out.kept hg2 (Ha1.out.own_ne (by omega) HB1.out (by decide)); have c2 : w2.cell? ⟨ob, 0, none⟩ = some (.slice A1 L c1) := (hB2.cell 0).trans rfl; have z2 := hB2.frozen 0; have HB2 := Lib.hid hB2; have Ha2 := Lib.hid ha2; have Hg2 := Lib.hid hg2; clear hB2 ha2 hg2)
  obtain ⟨w3, hw3⟩ : ∃ q, q = w2.setCell ⟨ob, 0, none⟩ (.slice A2 (L + 2) k2) := ⟨_, rfl⟩
  have hB3 : Blk w3 ob 26 #[.slice A2 (L + 2) k2] := by rw [hw3]; exact heap_setCell_same w2 ob 0 _ _ _ HB2.out
  have ha3 : AppZ w3 base 5 1 (.slice A2 (L + 2) k2) (L + 2) ((pre ++ [x1, x2]).map byteV) := by rw [hw3, List.map_append]; exact AppZ.setAt Ha2.out HB2.out (by decide)
  have hb3 : Below base w w3 := by
    rw [hw3]
    exact ((Hb1.out.trans ((Below.refl base w1).grown Hg2.out hs1 (fun g e => (Ha1.out.lt g e).1))).setCell hbo _)
  rw [← hw3]
  have c3 : w3.cell? ⟨ob, 0, none⟩ = some (.slice A2 (L + 2) k2) := (hB3.cell 0).trans rfl
  have hs3 : base ≤ w3.heap.size := by have := hb3.size; omega
  have Hr3 := Lib.hid (Hr.out.keptIn (KeptIn.of_below (S := fun k => k < base) hb3 fun _ h => h) (fun b off h0 e => hA h0 b off e))
  have HB3 := Lib.hid hB3
  have Ha3 := Lib.hid ha3
  have Hb3 := Lib.hid hb3
  clear hB3 ha3 hb3 hw3 Hr HB2 Ha2 Hg2 HW1 Hb1 HB1 Ha1 Hx1 c2 z2 c0
  go_wp2_with (first | (at_builtin; refine wpList_appz rfl (.tmp 15) (.tmp 16) 26 rfl 5 i0 (.int .u8 0) 1 1 Try.underlying26 hi0 hz0 hz1 hz2 rfl (by omega) base hs3 _ _ _ rfl Ha3.out A n c (bs.map byteV) rfl Hr3.out (oneB _) (by unfold maxLen; omega) (by omega) ?_; intro v4 w4 ha4 hg4; obtain ⟨A4, k4, rfl, hk4, _⟩ := ha4.rd; have hB4 := HB3.out.kept hg4 (Ha3.out.own_ne (by omega) HB3.out (by decide)); obtain ⟨w5, hw5, hb45, hx5⟩ := lay_bytes w4 [x3] (by simp); replace hw5 : w5 = w4.alloc (.cells #[.int .u8 (x3.toNat : Int)] 5) := hw5; have Hx5 := Lib.hid hx5; have hB5 := hB4.below hb45 hB4.lt; have hs4 : base ≤ w4.heap.size := (by have := hg4.size; omega); have hs5 : base ≤ w5.heap.size := (by have := hb45.size; omega); have Ha5 := Lib.hid (ha4.below hb45 (Nat.le_refl _)); have HB5 := Lib.hid hB5; have Hb5 := Lib.hid ((Hb3.out.trans ((Below.refl base w3).grown hg4 hs3 (fun g e => (Ha3.out.lt g e).1))).trans (hb45.mono hs4)); have HW5 := Lib.hid hw5; clear hB4 hb45 hx5 hB5 ha4 hg4 hw5) | (at_builtin; rw [← HW5.out]; refine wpList_appz rfl (.tmp 17) (.tmp 20) 26 rfl 5 i0 (.int .u8 0) 1 1 Try.underlying26 hi0 hz0 hz1 hz2 rfl (by omega) base hs5 _ _ _ rfl Ha5.out (some ⟨w4.heap.size, 0, none⟩) 1 1 (([x3] : List UInt8).map byteV) rfl Hx5.out (oneB _) (by unfold maxLen; omega) (by omega) ?_; intro v6 w6 ha6 hg6; obtain ⟨A6, k6, rfl, hk6, _⟩ := ha6.rd; have hB6 := HB5.out.kept hg6 (Ha5.out.own_ne (by omega) HB5.out (by decide)); have c6 : w6.cell? ⟨ob, 0, none⟩ = some (.slice A2 (L + 2) k2) := (hB6.cell 0).trans rfl; have z6 := hB6.frozen 0; have HB6 := Lib.hid hB6; have Ha6 := Lib.hid ha6; have Hg6 := Lib.hid hg6; clear hB6 ha6 hg6))
  refine bodyPost_end (results_none rfl _ _ _) rfl ⟨rfl, ⟨_, heap_setCell_same w6 ob 0 _ _ _ HB6.out, ?_⟩, ?_⟩
  · rw [Hx.out, show pre ++ ([x1, x2] ++ (bs ++ [x3])) = ((pre ++ [x1, x2]) ++ bs) ++ [x3] by simp, List.map_append, List.map_append, show L + (n + 3) = L + 2 + n + 1 by omega]
    exact AppZ.setAt Ha6.out HB6.out (by decide)
  · exact (Hb5.out.trans ((Below.refl base w5).grown Hg6.out hs5 (fun g e => (Ha5.out.lt g e).1))).setCell hbo _
end Go.Proofs.Yteofgkdpknaapaa
