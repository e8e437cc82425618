/- SuffixParts: the walk. -/
import Derived.Test.YtcelkneeedebiaaX27
namespace Go.Proofs.Ytcelkneeedebiaa
open Go Go.RowKit Go.Sort Go.Shelf

theorem nil22 (w : World) : (Instr.buildSlice 22 0 #[]).run Try.prog w = .ok (.slice (some ⟨w.heap.size, 0, none⟩) 0 0) (w.alloc (.cells #[] 5)) := by kernel_rfl
theorem info5v : (Try.prog.info? 5).map (fun i => (i.zero, i.size, i.bytes)) = some (some (.int .u8 0), 1, 1) := by kernel_rfl
set_option maxRecDepth 100000 in
set_option maxHeartbeats 4000000 in
theorem SuffixParts_any (A : Option Addr) (n c : Nat) (xs : List UInt8) (x0 x1 : UInt8) (B : Option Addr) (m d : Nat) (ys : List UInt8) (w : World) (hx : Rd w 1 A n (xs.map byteV)) (hc : n ≤ c) (hy : Rd w 1 B m (ys.map byteV)) (hd : m ≤ d) :
    Calls Try.prog 6 #[.slice A n c, .agg #[.int .u8 (x0.toNat : Int), .int .u8 (x1.toNat : Int)], .slice B m d] w fun e w' => e = .returned (.bool true) ∧ Below w.heap.size w w' := by
  obtain ⟨i5, hi5, hz5, hs5, hy5⟩ := info_parts info5v
  have Hx0 := Lib.hid hx
  have Hy0 := Lib.hid hy
  clear hx hy
  go_enter Try.func6, Try.ntmps6
  go_upto_region 1 with fail
  obtain ⟨w1, hw1⟩ : ∃ v, v = w.alloc (.cells #[.int .u8 (x0.toNat : Int), .int .u8 (x1.toNat : Int)] 37) := ⟨_, rfl⟩
  obtain ⟨X4, hX4⟩ : ∃ v, v = w.heap.size := ⟨_, rfl⟩
  have hb1 : Below w.heap.size w w1 := by rw [hw1]; exact (Below.refl _ _).alloc (Nat.le_refl _) _
  have HBX := Lib.hid (show Blk w1 X4 37 #[.int .u8 (x0.toNat : Int), .int .u8 (x1.toNat : Int)] by rw [hw1]; exact blk_newB hX4)
  rw [← hw1, ← hX4]
  have Hx := Lib.hid (Hx0.out.below hb1)
  have Hy := Lib.hid (Hy0.out.below hb1)
  have HB := Lib.hid hb1
  clear hw1 hX4 hb1 Hx0 Hy0
  go_wp2_with fail
  refine (sanity_any w1).mono ?_
  rintro e_ v1 ⟨rfl, hb_⟩
  replace Hx := Lib.hid (Hx.out.below hb_)
  replace Hy := Lib.hid (Hy.out.below hb_)
  replace HB := Lib.hid (HB.out.trans (hb_.mono HB.out.size))
  replace HBX := Lib.hid (HBX.out.below hb_ HBX.out.lt)
  clear hb_
  go_wp2_with fail
  refine (Limited_any A n c 100 xs v1 Hx.out hc (by decide)).mono ?_
  rintro e_ v2 ⟨⟨n1, rfl, hn1c, hn1K, hr_⟩, hw_⟩
  subst hw_
  obtain ⟨X, hX⟩ : ∃ B, B = xs.take 100 := ⟨_, rfl⟩
  rw [← hX] at hr_
  have HX := Lib.hid hr_
  have HXl := Lib.hid (show X.length = n1 from hr_.len1)
  clear hr_ hX
  clear Hx
  obtain ⟨i, hi⟩ : ∃ i, i = x0.toNat % (n1 + 1) := ⟨_, rfl⟩
  have hin : i ≤ n1 := by rw [hi]; have := Nat.mod_lt x0.toNat (show 0 < n1 + 1 by omega); omega
  obtain ⟨q, hq⟩ : ∃ q, q = x1.toNat % (n1 - i + 1) := ⟨_, rfl⟩
  have hqn : i + q ≤ n1 := by rw [hq]; have := Nat.mod_lt x1.toNat (show 0 < n1 - i + 1 by omega); omega
  have e1 : ((x0.toNat : Int)).tmod ((n1 : Int) + 1) = (i : Int) := by rw [hi]; have := Int.ofNat_tmod x0.toNat (n1 + 1); push_cast at this ⊢; exact this.symm
  have e2 : ((x1.toNat : Int)).tmod ((n1 : Int) - (i : Int) + 1) = (q : Int) := by rw [hq, show (n1 : Int) - (i : Int) + 1 = ((n1 - i + 1 : Nat) : Int) by omega]; exact (Int.ofNat_tmod x1.toNat (n1 - i + 1)).symm
  have w1a : IntKind.i64.wrap ((n1 : Int) + 1) = (n1 : Int) + 1 := by simp [IntKind.wrap, IntKind.bits, IntKind.signed]; omega
  have w1b : IntKind.i64.wrap ((n1 : Int) - (i : Int)) = (n1 : Int) - (i : Int) := by simp [IntKind.wrap, IntKind.bits, IntKind.signed]; omega
  have w1c : IntKind.i64.wrap ((n1 : Int) - (i : Int) + 1) = (n1 : Int) - (i : Int) + 1 := by simp [IntKind.wrap, IntKind.bits, IntKind.signed]; omega
  have w1d : IntKind.i64.wrap ((i : Int) + (q : Int)) = ((i + q : Nat) : Int) := by simp [IntKind.wrap, IntKind.bits, IntKind.signed]; omega
  have nz1 : ¬ ((n1 : Int) + 1 = 0) := by omega
  have nz2 : ¬ ((n1 : Int) - (i : Int) + 1 = 0) := by omega
  have u0 : IntKind.i64.wrap (x0.toNat : Int) = (x0.toNat : Int) := by have := x0.toNat_lt; simp [IntKind.wrap, IntKind.bits, IntKind.signed]; omega
  have u1 : IntKind.i64.wrap (x1.toNat : Int) = (x1.toNat : Int) := by have := x1.toNat_lt; simp [IntKind.wrap, IntKind.bits, IntKind.signed]; omega
  have wi : IntKind.i64.wrap (i : Int) = (i : Int) := by simp [IntKind.wrap, IntKind.bits, IntKind.signed]; omega
  have wq : IntKind.i64.wrap (q : Int) = (q : Int) := by simp [IntKind.wrap, IntKind.bits, IntKind.signed]; omega
  have cx0 : v2.cell? ⟨X4, 0, none⟩ = some (.int .u8 (x0.toNat : Int)) := by rw [HBX.out.cell]; rfl
  have cx1 : v2.cell? ⟨X4, 1, none⟩ = some (.int .u8 (x1.toNat : Int)) := by rw [HBX.out.cell]; rfl
  have Hi := Lib.hid hi
  have Hq := Lib.hid hq
  clear hi hq
  go_upto_region 5 with fail
  clear e1 e2 w1a w1b w1c w1d nz1 nz2 u0 u1 wi wq cx0 cx1 HBX
  go_wp2_with fail
  refine (ROrder_any A n1 c X v2 HX.out hn1c (by omega)).mono ?_
  rintro e_ v3 ⟨⟨O, oc, l, rfl, hoc, ho, hord⟩, hb_⟩
  replace Hy := Lib.hid (Hy.out.below hb_)
  replace HB := Lib.hid (HB.out.trans (hb_.mono HB.out.size))
  replace HX := Lib.hid (HX.out.below hb_)
  clear hb_
  have HO := Lib.hid ho
  have Hord := Lib.hid hord
  clear ho hord
  obtain ⟨A2, hA2, hAr⟩ := bytes_mid A (n := n1) (c := c) (i := i) (j := i + q) (by omega) hqn hn1c
  rw [show i + q - i = q by omega] at hA2 hAr
  have hA3 : ∀ w, (Instr.slice 22 (.slice A n1 c) (some (.int .i64 (i : Int))) (some (.int .i64 ((i : Int) + (q : Int)))) none).run Try.prog w = .ok (.slice A2 q (c - i)) w := fun w => by have := hA2 w; rw [run_sliceAt_slice _ _ _ _ _ _ und22e] at this; rw [← this]; push_cast; rfl
  have Hpart := Lib.hid (hAr v3 X HX.out)
  have HAr := Lib.hid hAr
  clear hA2 hAr
  have hqc : q ≤ c - i := by omega
  go_wp2_with fail
  refine (Longest_lit A O A2 n1 n1 q c oc (c - i) X ((X.drop i).take q) l v3 HX.out HO.out Hpart.out Hord.out hn1c hqc (by omega) (by omega)).mono ?_
  rintro e_ v4 ⟨⟨a1, L1, rfl, hf⟩, hb_⟩
  replace Hy := Lib.hid (Hy.out.below hb_)
  replace HB := Lib.hid (HB.out.trans (hb_.mono HB.out.size))
  replace HX := Lib.hid (HX.out.below hb_)
  replace HO := Lib.hid (HO.out.below hb_)
  replace Hpart := Lib.hid (Hpart.out.below hb_)
  clear hb_
  have HF := Lib.hid (found_part (by rw [HXl.out]; exact hqn) hf)
  clear hf
  go_upto_region 7 with fail
  obtain ⟨w7, hn_⟩ : ∃ v, v = v4.alloc (.cells #[.int .i64 (a1 : Int), .int .i64 (L1 : Int)] 29) := ⟨_, rfl⟩
  obtain ⟨X12, hX_⟩ : ∃ v, v = v4.heap.size := ⟨_, rfl⟩
  have HBX12 := Lib.hid (show Blk w7 X12 29 (fdV (a1 : Int) (L1 : Int)).toArray by rw [hn_]; exact blk_newB hX_)
  have hb_ : Below v4.heap.size v4 w7 := by rw [hn_]; exact (Below.refl _ _).alloc (Nat.le_refl _) _
  rw [← hn_, ← hX_]
  clear hn_ hX_
  replace Hy := Lib.hid (Hy.out.below hb_)
  replace HB := Lib.hid (HB.out.trans (hb_.mono HB.out.size))
  replace HX := Lib.hid (HX.out.below hb_)
  replace HO := Lib.hid (HO.out.below hb_)
  replace Hpart := Lib.hid (Hpart.out.below hb_)
  clear hb_
  have hbs := nil22
  have Hap0 := Lib.hid (show App (w7.alloc (.cells #[] 5)) w7.heap.size 5 (.slice (some ⟨w7.heap.size, 0, none⟩) 0 0) 0 [] from .inl ⟨rfl, rfl, _, rfl⟩)
  have HBa := Lib.hid (show Below w7.heap.size w7 (w7.alloc (.cells #[] 5)) from (Below.refl _ _).alloc (Nat.le_refl _) _)
  have Hp7 := Lib.hid (Hpart.out.below HBa.out)
  go_upto_region 8 with (at_builtin; go_loud (refine wpList_app rfl (.tmp 45) (.tmp 49) 22 rfl 5 i5 (.int .u8 0) 1 Try.underlying22 hi5 hz5 hs5 hy5 rfl w7.heap.size (by simp) _ 0 _ rfl Hap0.out A2 q (c - i) (((X.drop i).take q).map byteV) rfl Hp7.out (fun u hu => by obtain ⟨a, _, rfl⟩ := List.mem_map.1 hu; rfl) (by unfold maxLen; omega) (by omega) ?_; intro v8 w8 happ8 hb8))
  have Hap8 := Lib.hid happ8
  have HB78 := Lib.hid (show Below w7.heap.size w7 w8 from HBa.out.trans hb8)
  have hsz8 := HB78.out.size
  clear happ8 hb8 Hp7 HBa Hap0 hbs hA3
  clear Hpart
  have Hlim := Lib.hid (Limited_any B m d 20 ys w8 (Hy.out.below HB78.out) hd (by decide))
  go_wp2_with fail
  refine Hlim.out.mono ?_
  rintro e_ w8b ⟨⟨m1, rfl, hm1d, hm1K, hr_⟩, hw_⟩
  subst hw_
  have Hr_ := Lib.hid hr_
  have Hrl := Lib.hid hr_.len1
  clear hr_ Hlim
  go_upto_region 9 with (at_builtin; go_loud (refine wpList_app rfl (.tmp 51) (.tmp 53) 22 rfl 5 i5 (.int .u8 0) 1 Try.underlying22 hi5 hz5 hs5 hy5 rfl w7.heap.size hsz8 _ (0 + q) _ rfl Hap8.out B m1 d ((ys.take 20).map byteV) rfl Hr_.out (fun u hu => by obtain ⟨a, _, rfl⟩ := List.mem_map.1 hu; rfl) (by unfold maxLen; omega) (by omega) ?_; intro v9 w9 happ9 hb9))
  obtain ⟨A9, c9, e9, hc9, hR9⟩ := happ9.rd
  obtain ⟨nl, hnl⟩ : ∃ nl, nl = 0 + q + m1 := ⟨_, rfl⟩
  rw [← hnl] at e9 hc9 hR9
  have hnl2 : nl ≤ 1000 := by omega
  clear hnl
  subst e9
  have HL9 := Lib.hid (show Rd w9 1 A9 nl (((X.drop i).take q ++ ys.take 20).map byteV) from by simpa using hR9)
  have hb_ : Below w7.heap.size w7 w9 := HB78.out.trans hb9
  replace Hy := Lib.hid (Hy.out.below hb_)
  replace HB := Lib.hid (HB.out.trans (hb_.mono HB.out.size))
  replace HX := Lib.hid (HX.out.below hb_)
  replace HO := Lib.hid (HO.out.below hb_)
  replace HBX12 := Lib.hid (HBX12.out.below hb_ HBX12.out.lt)
  clear happ9 hb9 hb_ hR9 HB78 Hap8 Hr_ Hy hsz8
  go_wp2_with fail
  refine (Longest_lit A O A9 n1 n1 nl c oc c9 X ((X.drop i).take q ++ ys.take 20) l w9 HX.out HO.out HL9.out Hord.out hn1c hc9 (by omega) (by omega)).mono ?_
  rintro e_ v5 ⟨⟨a2, L2, rfl, hf⟩, hb_⟩
  replace HB := Lib.hid (HB.out.trans (hb_.mono HB.out.size))
  replace HX := Lib.hid (HX.out.below hb_)
  replace HO := Lib.hid (HO.out.below hb_)
  replace HBX12 := Lib.hid (HBX12.out.below hb_ HBX12.out.lt)
  replace HL9 := Lib.hid (HL9.out.below hb_)
  clear hb_
  have HG := Lib.hid (found_longer (by rw [HXl.out]; exact hqn) hf)
  clear hf
  go_upto_region 10 with fail
  obtain ⟨w10, hn_⟩ : ∃ v, v = v5.alloc (.cells #[.int .i64 (a2 : Int), .int .i64 (L2 : Int)] 29) := ⟨_, rfl⟩
  obtain ⟨X14, hX_⟩ : ∃ v, v = v5.heap.size := ⟨_, rfl⟩
  have HBX14 := Lib.hid (show Blk w10 X14 29 (fdV (a2 : Int) (L2 : Int)).toArray by rw [hn_]; exact blk_newB hX_)
  have hb_ : Below v5.heap.size v5 w10 := by rw [hn_]; exact (Below.refl _ _).alloc (Nat.le_refl _) _
  rw [← hn_, ← hX_]
  clear hn_ hX_
  replace HB := Lib.hid (HB.out.trans (hb_.mono HB.out.size))
  replace HX := Lib.hid (HX.out.below hb_)
  replace HO := Lib.hid (HO.out.below hb_)
  replace HBX12 := Lib.hid (HBX12.out.below hb_ HBX12.out.lt)
  replace HL9 := Lib.hid (HL9.out.below hb_)
  clear hb_
  have hf1 := HF.out.1
  have hf2 := HF.out.2
  have hg := HG.out
  have c1 : w10.cell? ⟨X12, 0, none⟩ = some (.int .i64 (a1 : Int)) := by rw [HBX12.out.cell]; rfl
  have c2 : w10.cell? ⟨X12, 1, none⟩ = some (.int .i64 (L1 : Int)) := by rw [HBX12.out.cell]; rfl
  have c3 : w10.cell? ⟨X14, 1, none⟩ = some (.int .i64 (L2 : Int)) := by rw [HBX14.out.cell]; rfl
  have ws : IntKind.i64.wrap ((i : Int) + (q : Int) - (i : Int)) = (q : Int) := by simp [IntKind.wrap, IntKind.bits, IntKind.signed]; omega
  have es : (i : Int) + (q : Int) - (i : Int) = (q : Int) := by omega
  have wq : IntKind.i64.wrap (q : Int) = (q : Int) := by simp [IntKind.wrap, IntKind.bits, IntKind.signed]; omega
  have k1 : ((L1 : Int) == (q : Int)) = true := by rw [hf1]; simp
  have k1n : (L1 == q) = true := by rw [hf1]; simp
  have k2 : decide ((a1 : Int) ≤ (i : Int)) = true := decide_eq_true (by omega)
  have k2n : decide (a1 ≤ i) = true := decide_eq_true (by omega)
  have k3 : decide ((L2 : Int) ≥ (q : Int)) = true := decide_eq_true (by omega)
  have k3n : decide (q ≤ L2) = true := decide_eq_true (by omega)
  clear hf1 hf2 hg HF HG
  go_wp2_with fail
  go_ret
  exact ⟨rfl, HB.out⟩
end Go.Proofs.Ytcelkneeedebiaa
