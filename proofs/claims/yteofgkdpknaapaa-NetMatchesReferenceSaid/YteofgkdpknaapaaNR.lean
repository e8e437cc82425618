/- Package net: the reference's readers, Parse and Forge, and the walk of NetMatchesReference. -/
import Derived.Test.YteofgkdpknaapaaN39
namespace Go.Proofs.Yteofgkdpknaapaa
open Go.RowKit Go.Sort

/-! ### Package net: the reference's reader: take, one, text. -/

theorem made_1R (z : Value) (n : Nat) : (Array.range (n * 1)).map (#[z][· % #[z].size]!) = (List.replicate n z).toArray := by
  apply Array.ext
  · simp
  · intro i h1 h2
    simp [Nat.mod_one]
theorem mkBytesR (w : World) (n : Nat) (hn : n ≤ 1000000) : (Instr.makeSlice 26 (.int .i64 (n : Int)) (.int .i64 (n : Int))).run Try.prog w = .ok (.slice (some ⟨w.heap.size, 0, none⟩) n n) (w.alloc (.cells (List.replicate n (Value.int .u8 0)).toArray 5)) := by
  obtain ⟨i0, hi0, hz0, hz1, hz2⟩ := info_parts info5
  rw [run_makeSlice w 26 5 i0 _ Try.underlying26 hi0 hz0 .i64 .i64 (n : Int) (n : Int) (by omega) (Int.le_refl _) (by rw [hz1]; omega) (by rw [hz2]; omega) (by omega)]
  rw [Int.toNat_natCast, hz1, Nat.mul_one]
  exact congrArg (fun c => Result.ok (Value.slice (some ⟨w.heap.size, 0, none⟩) n n) (w.alloc (.cells c 5))) (by have := made_1R (.int .u8 0) n; rw [Nat.mul_one] at this; exact this)
theorem takR_bad {n : Nat} {s : RS} (h : s.b.length < n) : takR n s = (List.replicate n 0, ⟨s.b, true⟩) := if_pos h
theorem takR_ok {n : Nat} {s : RS} (h : ¬ s.b.length < n) : takR n s = (s.b.take n, ⟨s.b.drop n, s.bad⟩) := if_neg h
/-- The reference's reader, as it lies in a block. -/
def RdR (w : World) (rb : Nat) (s : RS) : Prop := ∃ (A : Option Addr) (c : Nat), Blk w rb 88 #[.slice A s.b.length c, .bool s.bad] ∧ s.b.length ≤ c ∧ Rd w 1 A s.b.length (s.b.map byteV) ∧ (0 < s.b.length → ∀ b off, A = some ⟨b, off, none⟩ → b < rb)
theorem RdR.below {rb : Nat} {s : RS} {w w' : World} (h : RdR w rb s) (hb : Below w.heap.size w w') : RdR w' rb s := by
  obtain ⟨A, c, h1, h2, h3, h4⟩ := h
  exact ⟨A, c, h1.below hb h1.lt, h2, h3.below hb, h4⟩
theorem RdR.lt {rb : Nat} {s : RS} {w : World} (h : RdR w rb s) : rb < w.heap.size := by
  obtain ⟨A, c, h1, _⟩ := h
  exact h1.lt
/-- What take answers. -/
def TakeRR (rb n : Nat) (s : RS) (w : World) (e : Ending) (w' : World) : Prop :=
  (∃ (A : Option Addr) (c : Nat), e = .returned (.slice A n c) ∧ n ≤ c ∧ AppZ w' w.heap.size 5 1 (.slice A n c) n ((takR n s).1.map byteV)) ∧ RdR w' rb (takR n s).2 ∧ Only rb w w'
set_option maxRecDepth 100000 in
set_option maxHeartbeats 1000000 in
theorem takeR_any (rb n : Nat) (s : RS) (w : World) (hS : RdR w rb s) (hn : n ≤ 100000) :
    Calls Try.prog 58 #[.pointer (some ⟨rb, 0, none⟩), .int .i64 (n : Int)] w (TakeRR rb n s w) := by
  obtain ⟨i0, hi0, hz0, hz1, hz2⟩ := info_parts info5
  have hlt := hS.lt
  obtain ⟨A, c, hb, hlc, hr, hbd⟩ := hS
  obtain ⟨bs, bad⟩ := s
  dsimp only at hb hlc hr hbd
  have a0 : w.cell? ⟨rb, 0, none⟩ = some (.slice A bs.length c) := (hb.cell 0).trans rfl
  have hBl := Lib.hid hb
  have Hr := Lib.hid hr
  by_cases h : bs.length < n
  · have a1 : w.cell? ⟨rb, 1, none⟩ = some (.bool bad) := (hb.cell 1).trans rfl
    have z1 := hb.frozen 1
    have d0 : decide ((bs.length : Int) < (n : Int)) = true := decide_eq_true (by omega)
    have d1 : (bs.length : Int) < (n : Int) := by omega
    have hmk := fun w => mkBytesR w n (by omega)
    clear hb hr
    go_enter Try.func58, Try.ntmps58
    go_wp2_with fail
    refine bodyPost_ret (results_tmp rfl _ _ _) rfl ?_
    obtain ⟨w1, hw1⟩ : ∃ v, v = w.setCell ⟨rb, 1, none⟩ (.bool true) := ⟨_, rfl⟩
    have ho : Only rb w w1 := by rw [hw1]; exact KeptIn.setAt (KeptIn.refl _ w) (p := ⟨rb, 1, none⟩) (fun hk => hk.1 rfl) _
    have hB1 : Blk w1 rb 88 #[.slice A bs.length c, .bool true] := by rw [hw1]; exact heap_setCell_same w rb 1 _ _ _ hBl.out
    have hsz : w1.heap.size = w.heap.size := by rw [hw1, World.size_setCell]
    have hr1 : Rd w1 1 A bs.length (bs.map byteV) := rd_only Hr.out (by omega) ho fun h0 b off e => Nat.ne_of_lt (hbd h0 b off e)
    try rw [← hw1]
    have hal : Below w1.heap.size w1 (w1.alloc (.cells (Array.replicate n (Value.int .u8 0)) 5)) := (Below.refl _ _).alloc (Nat.le_refl _) _
    unfold TakeRR
    rw [takR_bad (s := ⟨bs, bad⟩) h]
    refine ⟨⟨some ⟨w.heap.size, 0, none⟩, n, rfl, Nat.le_refl _, ?_⟩, ⟨A, c, hB1.below hal hB1.lt, hlc, hr1.below hal, hbd⟩, ho.trans (Only.of_below hal)⟩
    have := World.ownsRow_lit (base := w.heap.size) (e := 5) (size := 1) w1 (Array.replicate n (Value.int .u8 0)) n (by omega) (by unfold maxLen; omega) (by simp)
    refine .inr ?_
    rw [List.map_replicate]
    rw [Array.toList_replicate] at this
    exact hsz ▸ this
  · have z0 := hb.frozen 0
    have d0 : decide ((bs.length : Int) < (n : Int)) = false := decide_eq_false (by omega)
    have d1 : ¬ (bs.length : Int) < (n : Int) := by omega
    have hs1 := run_slice_pre A bs.length c n (by omega)
    have hs2 := run_slice_post A bs.length c n (by omega)
    obtain ⟨w1, hw1⟩ : ∃ v, v = w.alloc (.cells #[] 5) := ⟨_, rfl⟩
    have hb1 : Below w.heap.size w w1 := by rw [hw1]; exact (Below.refl _ _).alloc (Nat.le_refl _) _
    have Ha1 := Lib.hid (show AppZ w1 w.heap.size 5 1 (.slice (some ⟨w.heap.size, 0, none⟩) 0 0) 0 [] by rw [hw1]; exact AppZ.empty w (Nat.le_refl _) _)
    have hs1z : w.heap.size ≤ w1.heap.size := hb1.size
    have a0' : (w.alloc (.cells #[] 5)).cell? ⟨rb, 0, none⟩ = some (.slice A bs.length c) := by rw [← hw1]; exact ((hb.below hb1 hb.lt).cell 0).trans rfl
    have Hpre := Lib.hid ((rd_pre hr (i := n) (by omega)).below hb1)
    have Hb1 := Lib.hid hb1
    have HW1 := Lib.hid hw1
    clear hb hr hb1 hw1
    go_enter Try.func58, Try.ntmps58
    go_upto_region 4 with fail
    go_upto_region 5 with (at_builtin; rw [← HW1.out]; refine wpList_appz rfl (.tmp 18) (.tmp 24) 26 rfl 5 i0 (.int .u8 0) 1 1 Try.underlying26 hi0 hz0 hz1 hz2 rfl (by omega) w.heap.size hs1z _ 0 [] rfl Ha1.out A n c ((bs.take n).map byteV) rfl Hpre.out (oneB _) (by unfold maxLen; omega) (by omega) ?_; intro v2 w2 ha2 hg2; rw [Nat.zero_add, List.nil_append] at ha2; have hb2 := (Below.refl w.heap.size _).grown hg2 hs1z (fun g e => (Ha1.out.lt g e).1); obtain ⟨A2, c2, rfl, hc2, _⟩ := ha2.rd; have Ha2 := Lib.hid ha2; have Hb2 := Lib.hid (Hb1.out.trans hb2); clear ha2 hg2 hb2)
    have hB2 := hBl.out.below Hb2.out hBl.out.lt
    have b0 : w2.cell? ⟨rb, 0, none⟩ = some (.slice A bs.length c) := (hB2.cell 0).trans rfl
    have zz := hB2.frozen 0
    have HB2 := Lib.hid hB2
    clear a0 a0' hB2 hs1
    go_wp2_with fail
    refine bodyPost_ret (results_tmp rfl _ _ _) rfl ?_
    obtain ⟨w3, hw3⟩ : ∃ v, v = w2.setCell ⟨rb, 0, none⟩ (.slice (dropA A c n) (bs.length - n) (c - n)) := ⟨_, rfl⟩
    rw [← hw3]
    have ho : Only rb w2 w3 := by rw [hw3]; exact (KeptIn.refl _ w2).setCell (fun k hk => hk.2) (fun hk => hk.1 rfl) _
    have h2 := (rd_post Hr.out (i := n) (by omega) hlc).below Hb2.out
    have hd2 : 0 < bs.length - n → ∀ b off, dropA A c n = some ⟨b, off, none⟩ → b < rb := fun h0 b off e => by
      obtain ⟨b', off', e', _⟩ := Hr.out.2.2 (by omega)
      have := hbd (by omega) b' off' e'
      unfold dropA at e
      rw [if_neg (by omega), e', Option.map_some] at e
      unfold Addr.add at e
      split at e <;> simp at e <;> omega
    unfold TakeRR
    rw [takR_ok (s := ⟨bs, bad⟩) h]
    refine ⟨⟨A2, c2, rfl, hc2, Ha2.out.only ho hlt⟩, ⟨dropA A c n, c - n, ?_, by rw [List.length_drop]; show bs.length - n ≤ c - n; omega, ?_, by rw [List.length_drop]; exact hd2⟩, (Only.of_below Hb2.out).trans ho⟩
    · rw [List.length_drop, hw3]
      exact heap_setCell_same w2 rb 0 _ _ _ HB2.out
    · rw [List.length_drop]
      exact rd_only h2 (by omega) ho (fun h0 b off e => Nat.ne_of_lt (hd2 h0 b off e))
/-- What one answers. -/
def OneRR (rb : Nat) (s : RS) (w : World) (e : Ending) (w' : World) : Prop := e = .returned (.int .i64 ((oneR s).1 : Int)) ∧ RdR w' rb (oneR s).2 ∧ Only rb w w'
theorem byte_of {w : World} {B : Option Addr} {n : Nat} {l : List UInt8} (h : Rd w 1 B n (l.map byteV)) (hn : 0 < n) : ∃ b o, B = some ⟨b, o, none⟩ ∧ ∀ W j, Rd W 1 (some ⟨b, o, none⟩) n (l.map byteV) → j < n → W.cell? ⟨b, o + j, none⟩ = some (.int .u8 ((l.getD j 0).toNat : Int)) := by
  obtain ⟨b, o, e, _⟩ := h.2.2 hn
  refine ⟨b, o, e, fun W j hW hj => ?_⟩
  have hl := hW.len1
  obtain ⟨b', o', e', hc⟩ := hW.2.2 hn
  cases e'
  refine hc j (byteV (l.getD j 0)) ?_
  rw [List.getElem?_map, List.getD_eq_getElem?_getD, List.getElem?_eq_getElem (by omega)]
  rfl
set_option maxRecDepth 100000 in
set_option maxHeartbeats 1000000 in
theorem oneR_any (rb : Nat) (s : RS) (w : World) (hS : RdR w rb s) :
    Calls Try.prog 40 #[.pointer (some ⟨rb, 0, none⟩)] w (OneRR rb s w) := by
  have ht : Calls Try.prog 58 #[.pointer (some ⟨rb, 0, none⟩), .int .i64 1] w (TakeRR rb 1 s w) := takeR_any rb 1 s w hS (by omega)
  have Hs := Lib.hid hS
  clear hS
  obtain ⟨x, hx⟩ : ∃ x, x = (takR 1 s).1.getD 0 0 := ⟨_, rfl⟩
  have HX := Lib.hid hx
  clear hx
  have hxl := x.toNat_lt
  have hcv : IntKind.i64.wrap (x.toNat : Int) = (x.toNat : Int) := by rw [IntKind.wrap_i64]; omega
  go_enter Try.func40, Try.ntmps40
  go_wp2_with fail
  refine ht.mono ?_
  rintro e w1 ⟨⟨B, c, rfl, hc, ha⟩, hS', ho⟩
  obtain ⟨B', c', eB, _, hr⟩ := ha.rd
  cases eB
  obtain ⟨b, o, rfl, hby⟩ := byte_of hr (by omega)
  have c0 : w1.cell? ⟨b, o, none⟩ = some (.int .u8 (x.toNat : Int)) := by rw [HX.out]; exact hby w1 0 hr (by omega)
  have HS' := Lib.hid hS'
  have Ho := Lib.hid ho
  clear ha hr hby hS' ho
  go_wp2_with fail
  refine bodyPost_ret (results_tmp rfl _ _ _) rfl ⟨?_, HS'.out, Ho.out⟩
  show Ending.returned (.int .i64 (x.toNat : Int)) = _
  rw [HX.out]
  rfl
/-- What text answers. -/
def TextRR (rb : Nat) (s : RS) (w : World) (e : Ending) (w' : World) : Prop :=
  (∃ (A : Option Addr) (c : Nat), e = .returned (.slice A (textR s).1.length c) ∧ (textR s).1.length ≤ c ∧ AppZ w' w.heap.size 5 1 (.slice A (textR s).1.length c) (textR s).1.length ((textR s).1.map byteV)) ∧ RdR w' rb (textR s).2 ∧ Only rb w w'
set_option maxRecDepth 100000 in
set_option maxHeartbeats 1000000 in
theorem textR_any (rb : Nat) (s : RS) (w : World) (hS : RdR w rb s) :
    Calls Try.prog 42 #[.pointer (some ⟨rb, 0, none⟩)] w (TextRR rb s w) := by
  have ht : Calls Try.prog 58 #[.pointer (some ⟨rb, 0, none⟩), .int .i64 2] w (TakeRR rb 2 s w) := takeR_any rb 2 s w hS (by omega)
  have Hs := Lib.hid hS
  clear hS
  obtain ⟨s1, hs1⟩ : ∃ x, x = (takR 2 s).2 := ⟨_, rfl⟩
  obtain ⟨x, hx⟩ : ∃ x, x = (takR 2 s).1.getD 0 0 := ⟨_, rfl⟩
  obtain ⟨y, hy⟩ : ∃ x, x = (takR 2 s).1.getD 1 0 := ⟨_, rfl⟩
  have hxl := x.toNat_lt
  have hyl := y.toNat_lt
  obtain ⟨N, hN⟩ : ∃ N, N = 256 * x.toNat + y.toNat := ⟨_, rfl⟩
  have htx : textR s = takR N s1 := by unfold textR; rw [hN, hx, hy, hs1]
  have HX := Lib.hid hx
  have HY := Lib.hid hy
  have HS1 := Lib.hid hs1
  have Htx := Lib.hid htx
  have hNl : N ≤ 65535 := by omega
  have w1i : IntKind.i64.wrap (x.toNat : Int) = (x.toNat : Int) := by rw [IntKind.wrap_i64]; omega
  have w2i : IntKind.i64.wrap (y.toNat : Int) = (y.toNat : Int) := by rw [IntKind.wrap_i64]; omega
  have w3i : IntKind.i64.wrap (256 * (x.toNat : Int)) = 256 * (x.toNat : Int) := by rw [IntKind.wrap_i64]; omega
  have w4i : IntKind.i64.wrap (256 * (x.toNat : Int) + (y.toNat : Int)) = (N : Int) := by rw [IntKind.wrap_i64]; omega
  clear hx hy hs1 htx hN
  go_enter Try.func42, Try.ntmps42
  go_upto_region 1 with fail
  go_wp2_with fail
  refine ht.mono ?_
  rintro e w1 ⟨⟨B, c, rfl, hc, ha⟩, hS', ho⟩
  obtain ⟨B', c', eB, _, hr⟩ := ha.rd
  cases eB
  obtain ⟨b, o, rfl, hby⟩ := byte_of hr (by omega)
  rw [← HS1.out] at hS'
  have HS' := Lib.hid hS'
  have Ho := Lib.hid ho
  have Hr := Lib.hid hr
  have Hby := Lib.hid hby
  clear ha hr hby hS' ho ht
  go_upto_region 2 with fail
  refine wp_region_flow_tail 11 [6, 7, 8, 9, 10, 11, 12, 13, 14, 15, 16] [(Spec.is (.pointer (some ⟨rb, 0, none⟩)), false), (Spec.is (.slice (some ⟨b, o, none⟩) 2 c), false), (Spec.is (.pointer (some ⟨b, o, none⟩)), false), (Spec.is (.int .u8 (x.toNat : Int)), false), (Spec.is (.int .i64 (x.toNat : Int)), false), (Spec.is (.int .i64 (256 * (x.toNat : Int))), false), (Spec.is (.slice (some ⟨b, o, none⟩) 2 c), false), (Spec.is (.pointer (some ⟨b, o + 1, none⟩)), false), (Spec.is (.int .u8 (y.toNat : Int)), false), (Spec.is (.int .i64 (y.toNat : Int)), false), (Spec.is (.int .i64 (N : Int)), false)] 18 (by kernel_rfl) (List.take_append_drop _ _) rfl (by kernel_rfl) (by kernel_rfl) (by kernel_rfl) (by decide) (by kernel_rfl) (by kernel_rfl) (fun _ _ d _ _ h => by cases d <;> exact h) rfl (by decide) rfl (by decide) (by kernel_rfl) ?_ ?_
  · refine ⟨?_, ?_, ?_, ?_, ?_, ?_, ?_, ?_, ?_, ?_, ?_, trivial⟩
    · intro a W hE hb hs
      have h0 : a.eval (.tmp 0) = .pointer (some ⟨rb, 0, none⟩) := hb 0 (by decide)
      refine flow0 rfl ?_
      exact val_move _ rfl _ h0 ⟨rfl, trivial⟩
    · intro a W hE hb hs
      have h3 : a.eval (.tmp 3) = .slice (some ⟨b, o, none⟩) 2 c := hb 3 (by decide)
      refine flow0 rfl ?_
      exact val_move _ rfl _ h3 ⟨rfl, trivial⟩
    · intro a W hE hb hs
      have h7 : a.eval (.tmp 7) = .slice (some ⟨b, o, none⟩) 2 c := hs 1 (by decide)
      refine flow0 rfl ?_
      intro K hK
      unfold Oper.wp execOp
      simp only [h7, BigFrame.eval_const]
      simp [go_sem]
      exact hK _ _ ⟨Below.refl _ _, rfl, trivial⟩
    · intro a W hE hb hs
      have h8 : a.eval (.tmp 8) = .pointer (some ⟨b, o, none⟩) := hs 2 (by decide)
      refine flow0 rfl ?_
      have c0 : W.cell? ⟨b, o, none⟩ = some (.int .u8 (x.toNat : Int)) := by rw [HX.out]; exact Hby.out W 0 (Hr.out.below (ext_below hE)) (by omega)
      intro K hK
      unfold Oper.wp execOp
      simp only [h8]
      simp [go_sem, c0]
      exact hK _ _ ⟨Below.refl _ _, rfl, trivial⟩
    · intro a W hE hb hs
      have h9 : a.eval (.tmp 9) = .int .u8 (x.toNat : Int) := hs 3 (by decide)
      refine flow0 rfl ?_
      intro K hK
      unfold Oper.wp execOp
      simp only [h9]
      simp [go_sem, w1i]
      exact hK _ _ ⟨Below.refl _ _, rfl, trivial⟩
    · intro a W hE hb hs
      have h10 : a.eval (.tmp 10) = .int .i64 (x.toNat : Int) := hs 4 (by decide)
      refine flow0 rfl ?_
      intro K hK
      unfold Oper.wp execOp
      simp only [h10, BigFrame.eval_const]
      simp [go_sem, w3i]
      exact hK _ _ ⟨Below.refl _ _, rfl, trivial⟩
    · intro a W hE hb hs
      have h3 : a.eval (.tmp 3) = .slice (some ⟨b, o, none⟩) 2 c := hb 3 (by decide)
      refine flow0 rfl ?_
      exact val_move _ rfl _ h3 ⟨rfl, trivial⟩
    · intro a W hE hb hs
      have h12 : a.eval (.tmp 12) = .slice (some ⟨b, o, none⟩) 2 c := hs 6 (by decide)
      refine flow0 rfl ?_
      intro K hK
      unfold Oper.wp execOp
      simp only [h12, BigFrame.eval_const]
      simp [go_sem]
      exact hK _ _ ⟨Below.refl _ _, rfl, trivial⟩
    · intro a W hE hb hs
      have h13 : a.eval (.tmp 13) = .pointer (some ⟨b, o + 1, none⟩) := hs 7 (by decide)
      refine flow0 rfl ?_
      have c0 : W.cell? ⟨b, o + 1, none⟩ = some (.int .u8 (y.toNat : Int)) := by rw [HY.out]; exact Hby.out W 1 (Hr.out.below (ext_below hE)) (by omega)
      intro K hK
      unfold Oper.wp execOp
      simp only [h13]
      simp [go_sem, c0]
      exact hK _ _ ⟨Below.refl _ _, rfl, trivial⟩
    · intro a W hE hb hs
      have h14 : a.eval (.tmp 14) = .int .u8 (y.toNat : Int) := hs 8 (by decide)
      refine flow0 rfl ?_
      intro K hK
      unfold Oper.wp execOp
      simp only [h14]
      simp [go_sem, w2i]
      exact hK _ _ ⟨Below.refl _ _, rfl, trivial⟩
    · intro a W hE hb hs
      have h11 : a.eval (.tmp 11) = .int .i64 (256 * (x.toNat : Int)) := hs 5 (by decide)
      have h15 : a.eval (.tmp 15) = .int .i64 (y.toNat : Int) := hs 9 (by decide)
      refine flow0 rfl ?_
      intro K hK
      unfold Oper.wp execOp
      simp only [h11, h15]
      simp [go_sem, w4i]
      exact hK _ _ ⟨Below.refl _ _, rfl, trivial⟩
  intro f W hb hT hp hd
  have e6 : f 6 = .pointer (some ⟨rb, 0, none⟩) := hT 0 (by decide)
  have e16 : f 16 = .int .i64 (N : Int) := hT 10 (by decide)
  simp only [putV, List.foldl_cons, List.foldl_nil, Act.put, List.setIfInBounds_toArray, List.set_cons_succ, List.set_cons_zero]
  rw [e6, e16]
  have Hb := Lib.hid hb
  clear hb hT hp hd e6 e16 w1i w2i w3i w4i
  go_wp2_with fail
  refine (takeR_any rb N s1 W (HS'.out.below Hb.out) (by omega)).mono ?_
  rintro e w2 ⟨⟨B2, c2, rfl, hc2, ha2⟩, hS2, ho2⟩
  have hl2 := takR_len N s1
  rw [← Htx.out] at ha2 hS2 hl2
  have Ha2 := Lib.hid ha2
  have HS2 := Lib.hid hS2
  have Ho2 := Lib.hid ((Ho.out.trans (Only.of_below Hb.out)).trans ho2)
  have Hl2 := Lib.hid hl2
  have hsz : w.heap.size ≤ W.heap.size := Nat.le_trans Ho.out.size Hb.out.size
  clear ha2 hS2 ho2 hl2
  go_wp2_with fail
  refine bodyPost_ret (results_tmp rfl _ _ _) rfl ⟨⟨B2, c2, ?_, ?_, ?_⟩, HS2.out, Ho2.out⟩
  · rw [Hl2.out]; rfl
  · rw [Hl2.out]; exact hc2
  · rw [Hl2.out]; exact Ha2.out.mono hsz
/-! ### Package net: the reference's reader: sums. -/

theorem RdR.keptIn {S : Nat → Prop} {w w' : World} {rb : Nat} {s : RS} (h : RdR w rb s) (hk : KeptIn S w w') (hS : ∀ b, b ≤ rb → S b) : RdR w' rb s := by
  obtain ⟨A, c, h1, h2, h3, h4⟩ := h
  exact ⟨A, c, h1.keptIn hk (hS rb (Nat.le_refl _)), h2, h3.keptIn hk fun b off h0 e => hS b (Nat.le_of_lt (h4 h0 b off e)), h4⟩
theorem take_snoc {l : List UInt8} {k : Nat} {b : UInt8} (h : l[k]? = some b) : l.take (k + 1) = l.take k ++ [b] := by rw [List.take_add_one, h]; rfl
/-- What sums answers. -/
def SumsRR (rb n : Nat) (s : RS) (w : World) (e : Ending) (w' : World) : Prop :=
  (∃ (A : Option Addr) (c : Nat), e = .returned (.slice A n c) ∧ n ≤ c ∧ AppZ w' w.heap.size 93 32 (.slice A n c) n ((sumsR n s).1.flatMap sumC)) ∧ RdR w' rb (sumsR n s).2 ∧ Only rb w w'
set_option maxRecDepth 100000 in
set_option maxHeartbeats 1000000 in
theorem sumsR_any (rb n : Nat) (s : RS) (w : World) (hS : RdR w rb s) (hn : n ≤ 255) :
    Calls Try.prog 43 #[.pointer (some ⟨rb, 0, none⟩), .int .i64 (n : Int)] w (SumsRR rb n s w) := by
  obtain ⟨i32, hi32, hz32, hs32, hy32⟩ := info_parts info32
  have hlt := hS.lt
  have hzz : (sumC z32).toArray = zero32 := rfl
  obtain ⟨w1, hw1⟩ : ∃ v, v = w.alloc (.cells #[] 93) := ⟨_, rfl⟩
  have hb1 : Below w.heap.size w w1 := by rw [hw1]; exact (Below.refl _ _).alloc (Nat.le_refl _) _
  have Ha1 := Lib.hid (show AppZ w1 w.heap.size 93 32 (.slice (some ⟨w.heap.size, 0, none⟩) 0 0) 0 [] by rw [hw1]; exact AppZ.empty w (Nat.le_refl _) _)
  have HS1 := Lib.hid (hS.below hb1)
  have Ho1 := Lib.hid (show Only rb w w1 from Only.of_below hb1)
  have HW1 := Lib.hid hw1
  clear hw1 hb1 hS
  go_enter Try.func43, Try.ntmps43
  go_upto_region 2 with fail
  rw [← HW1.out]
  go_upto_region 3 with fail
  go_loopw [5, 6] (fun v5 v6 wr => ∃ i : Nat, v6 = .int .i64 (i : Int) ∧ i ≤ n ∧ AppZ wr w.heap.size 93 32 v5 i ((sumsR i s).1.flatMap sumC) ∧ RdR wr rb (sumsR i s).2 ∧ Only rb w wr) (fun _ v6 _ => n - (intOf v6).toNat)
  case atStart => exact ⟨0, rfl, Nat.zero_le _, Ha1.out, HS1.out, Ho1.out⟩
  case round =>
    obtain ⟨i, rfl, hi, ha, hs, ho⟩ := hrel
    have hsz := ho.size
    obtain ⟨A5, c5, rfl, hc5, _⟩ := ha.rd
    have Ha := Lib.hid ha
    have Hs := Lib.hid hs
    have Ho := Lib.hid ho
    clear ha hs ho Ha1 HS1 Ho1 HW1
    by_cases hlt2 : i < n
    · have d0 : decide ((i : Int) < (n : Int)) = true := decide_eq_true (by omega)
      have d0' : (i : Int) < (n : Int) := by omega
      have hiw : IntKind.i64.wrap ((i : Int) + 1) = (i : Int) + 1 := by rw [IntKind.wrap_i64]; omega
      obtain ⟨s1, hs1⟩ : ∃ q, q = (sumsR i s).2 := ⟨_, rfl⟩
      rw [← hs1] at Hs
      obtain ⟨l, hl⟩ : ∃ q, q = (takR 32 s1).1 := ⟨_, rfl⟩
      obtain ⟨s2, hs2⟩ : ∃ q, q = (takR 32 s1).2 := ⟨_, rfl⟩
      have hll : l.length = 32 := by rw [hl, takR_len]
      have Hnext := Lib.hid (show sumsR (i + 1) s = ((sumsR i s).1 ++ [padS l], s2) by rw [hl, hs2, hs1]; rfl)
      have Hl := Lib.hid hl
      have Hs2 := Lib.hid hs2
      have Hll := Lib.hid hll
      have HN := Lib.hid (Blk.new wr 93 zero32)
      obtain ⟨X7, hX7⟩ : ∃ v, v = wr.heap.size := ⟨_, rfl⟩
      obtain ⟨wa, hwa⟩ : ∃ v, v = (wr.alloc (.cells zero32 93)).setRow wr.heap.size (sumC z32).toArray := ⟨_, rfl⟩
      have hba : Below wr.heap.size wr wa := by rw [hwa]; exact Below.setRow ((Below.refl _ _).alloc (Nat.le_refl _) _) (Nat.le_refl _) _
      have hXa : Blk wa X7 93 (sumC (padS (l.take 0))).toArray := by rw [hwa, hX7, List.take_zero, padS_nil]; exact setRow_heap _ _ _ _ _ _ HN.out
      have hHa := Ha.out.below hba (Nat.le_refl _)
      have hrX : rb < X7 := by omega
      have hwX : w.heap.size ≤ X7 := by omega
      have hown : ∀ g, (Value.slice A5 i c5).ownBlock = some g → g < X7 := fun g e => by have := (Ha.out.lt g e).2; omega
      have Hown := Lib.hid hown
      replace Ha := Lib.hid hHa
      replace Hs := Lib.hid (Hs.out.below hba)
      replace Ho := Lib.hid (Ho.out.trans (Only.of_below hba))
      have HXa := Lib.hid hXa
      have HW := Lib.hid hwa
      have HX7 := Lib.hid hX7
      clear hs1 hl hs2 hll hba hXa hHa hwa hX7 hown hsz
      go_upto_region 6 with (first | (refine wpList_buildN rfl 93 _ rfl [] rfl _ built32z ?_) | (refine wpList_alloc0 rfl 93 rfl zero32 _ i32 hi32 hz32 rfl ?_; simp only [Act.put, List.setIfInBounds_toArray, List.set_cons_succ, List.set_cons_zero]) | (refine wpList_store_row rfl 93 (.tmp 7) (.tmp 16) rfl wr.heap.size (sumC z32).toArray rfl rfl 93 _ HN.out (size32 _ (sum_size _)) ((zero32_size).trans (sum_size _).symm) (all_oneCell_toArray (oneB _)) ?_))
      rw [← HW.out, ← HX7.out]
      have ht : Calls Try.prog 58 #[.pointer (some ⟨rb, 0, none⟩), .int .i64 32] wa (TakeRR rb 32 s1 wa) := takeR_any rb 32 s1 wa Hs.out (by omega)
      clear HN HW
      go_wp2_with fail
      refine ht.mono ?_
      rintro e wb ⟨⟨B, c, rfl, hc, hb⟩, hS', ho'⟩
      rw [← Hl.out] at hb
      rw [← Hs2.out] at hS'
      obtain ⟨B', c', eB, _, hr⟩ := hb.rd
      cases eB
      obtain ⟨bb, bo, rfl, hby⟩ := byte_of hr (by omega)
      have hbX : bb ≠ X7 := by have h1 := (hb.lt bb rfl).1; have h2 := HXa.out.lt; omega
      have HX := Lib.hid (ho'.blk HXa.out (by omega))
      have Hab := Lib.hid (Ha.out.only ho' hlt)
      have Hsb := Lib.hid hS'
      have Hob := Lib.hid (Ho.out.trans ho')
      have Hr := Lib.hid hr
      have Hby := Lib.hid hby
      have hwsb : w.heap.size ≤ wb.heap.size := Hob.out.size
      clear hb hS' ho' hr hby ht HXa Ha Hs Ho
      go_upto_region 8 with fail
      go_loopw [9] (fun v9 wx => ∃ k : Nat, v9 = .int .i64 (k : Int) ∧ k ≤ 32 ∧ Blk wx X7 93 (sumC (padS (l.take k))).toArray ∧ KeptIn (fun q => q ≠ X7) wb wx) (fun v9 _ => 32 - (intOf v9).toNat)
      case atStart => exact ⟨0, rfl, by omega, HX.out, KeptIn.refl _ _⟩
      case round =>
        obtain ⟨k, rfl, hk, h5, hkx⟩ := hrel
        have H5 := Lib.hid h5
        have HK := Lib.hid hkx
        have Hrr := Lib.hid (Hr.out.keptIn hkx fun b off _ e => by cases e; exact hbX)
        clear h5 hkx
        by_cases hlt3 : k < 32
        · have e0 : decide ((k : Int) < 32) = true := decide_eq_true (by omega)
          obtain ⟨b, hb⟩ : ∃ b, l[k]? = some b := ⟨_, List.getElem?_eq_getElem (by have := Hll.out; omega)⟩
          have gb : wr.cell? ⟨bb, bo + k, none⟩ = some (.int .u8 (b.toNat : Int)) := by
            have h := Hby.out wr k Hrr.out (by omega)
            rw [List.getD_eq_getElem?_getD, hb] at h
            exact h
          have hkL : (k : Int) < 32 := by omega
          have hk0 : (0 : Int) ≤ (k : Int) := by omega
          have hkw : IntKind.i64.wrap ((k : Int) + 1) = (k : Int) + 1 := by rw [IntKind.wrap_i64]; omega
          have fr5 := H5.out.frozen k
          have hlen : (l.take k).length = k := by rw [List.length_take]; have := Hll.out; omega
          have c5 : wr.cell? ⟨X7, k, none⟩ = (sumC (padS (l.take k))).toArray[k]? := H5.out.cell k
          obtain ⟨q, hq⟩ : ∃ q, (sumC (padS (l.take k))).toArray[k]? = some q := ⟨_, Array.getElem?_eq_getElem (by rw [sum_size]; omega)⟩
          rw [hq] at c5
          have HSq := Lib.hid (show (sumC (padS (l.take k))).toArray.setIfInBounds k (.int .u8 (b.toNat : Int)) = (sumC (padS (l.take (k + 1)))).toArray by
            rw [take_snoc hb, List.setIfInBounds_toArray]
            congr 1
            show ((padL _).map byteV).set k (byteV b) = (padL _).map byteV
            rw [padL_snoc (by omega), List.map_set, hlen])
          have HE5 := Lib.hid (heap_setCell_same wr X7 k _ 93 (.int .u8 (b.toNat : Int)) H5.out)
          have HEK := Lib.hid (HK.out.setAt (p := ⟨X7, k, none⟩) (fun h => h rfl) (.int .u8 (b.toNat : Int)))
          clear hb hq hlen
          go_wp2_with fail
          exact ⟨⟨k + 1, by push_cast; rfl, by omega, by rw [← HSq.out]; exact HE5.out, HEK.out⟩, by simp only [intOf]; omega⟩
        · have e0 : decide ((k : Int) < 32) = false := decide_eq_false (by omega)
          obtain rfl : k = 32 := by omega
          obtain ⟨x, hx⟩ : ∃ x, x = padS l := ⟨_, rfl⟩
          have h5 := H5.out
          rw [List.take_of_length_le (by have := Hll.out; omega), ← hx] at h5
          have Hrow := Lib.hid (Blk.range (cs := sumC x) h5)
          obtain ⟨wn, hwn⟩ : ∃ q, q = wr.alloc (.cells (sumC x).toArray 93) := ⟨_, rfl⟩
          have hbn : Below wr.heap.size wr wn := by rw [hwn]; exact (Below.refl _ _).alloc (Nat.le_refl _) _
          have hXn : Blk wn wr.heap.size 93 (sumC x).toArray := by rw [hwn]; exact Blk.new _ _ _
          have ha1 : AppZ wr w.heap.size 93 32 (.slice A5 i c5) i ((sumsR i s).1.flatMap sumC) := Hab.out.kept (KeptIn.grownBut HK.out) (.inr fun e => by have := Hown.out X7 e; omega)
          have Han := Lib.hid (ha1.below hbn (Nat.le_refl _))
          have Hrn := Lib.hid (rd32_one hXn)
          have hsn : w.heap.size ≤ wn.heap.size := by have h1 := hbn.size; have h2 := HK.out.size; omega
          have Hsn := Lib.hid ((Hsb.out.keptIn HK.out (fun b hb => by omega)).below hbn)
          have Hon := Lib.hid (show Only rb w wn from KeptIn.trans (KeptIn.trans Hob.out (KeptIn.mono HK.out fun q hq => by have := hq.2; omega)) (KeptIn.of_below hbn fun q hq => by have := hq.2; have := HK.out.size; omega))
          have HWn := Lib.hid hwn
          have HX := Lib.hid hx
          clear h5 hx hwn hbn hXn ha1
          go_upto_region 4 with (first | (refine wpList_load_mid rfl 93 (.tmp 7) rfl X7 0 rfl (sumC x) _ Hrow.out und32 rfl (by rw [sumC_len]; kernel_rfl) ?_) | (refine wpList_build1s rfl 34 93 (.tmp 30) rfl (sumC x).toArray i32 _ 32 Try.underlying34 hi32 hz32 hs32 (by omega) (by decide) rfl (sum_size _) ?_; rw [← HWn.out]) | (at_builtin; refine wpList_appz rfl (.tmp 29) (.tmp 31) 34 rfl 93 i32 _ 32 32 Try.underlying34 hi32 hz32 hs32 hy32 rfl (by omega) w.heap.size hsn _ _ _ rfl Han.out (some ⟨wr.heap.size, 0, none⟩) 1 1 (sumC x) rfl Hrn.out (oneB _) (by unfold maxLen; omega) (by omega) ?_; intro v' w10 ha10 hg10; obtain ⟨C7, k7, rfl, hk7, _⟩ := ha10.rd; have Ha10 := Lib.hid ha10; have Hg10 := Lib.hid hg10; clear ha10 hg10))
          have hB10 : Below w.heap.size wn w10 := (Below.refl _ _).grown Hg10.out hsn (fun g e => (Han.out.lt g e).1)
          have HB10 := Lib.hid hB10
          clear hB10
          go_wp2_with fail
          refine ⟨⟨i + 1, by push_cast; rfl, by omega, ?_, ?_, ?_⟩, by simp only [intOf]; omega⟩
          · rw [Hnext.out, List.flatMap_append, ← HX.out]
            simpa using Ha10.out
          · rw [Hnext.out]
            exact Hsn.out.keptIn (KeptIn.of_below (S := fun b => b < w.heap.size) HB10.out fun k hk => hk) (fun b hb => by omega)
          · exact KeptIn.trans Hon.out (KeptIn.of_below HB10.out fun q hq => hq.2)
    · have d0 : decide ((i : Int) < (n : Int)) = false := decide_eq_false (by omega)
      have d0' : ¬ (i : Int) < (n : Int) := by omega
      obtain rfl : i = n := by omega
      go_wp2_with fail
      exact bodyPost_ret (results_tmp rfl _ _ _) rfl ⟨⟨A5, c5, rfl, hc5, Ha.out⟩, Hs.out, Ho.out⟩
/-! ### Package net: the reference's reader: signed. -/

theorem infoSD : (Try.prog.info? 37).map (fun i => (i.zero, i.size, i.bytes)) = some (some (.agg (sdC none 0 0 none 0 0).toArray), 2, 48) := by kernel_rfl
theorem builtSD (B : Option Addr) (n c : Nat) : Try.prog.built 37 [(0, .slice B n c)] = some (sdC B n c none 0 0).toArray := by kernel_rfl
theorem sizeSD (cs : Array Value) (h : cs.size = 2) : (Try.prog.info? 37).map (·.size) = some cs.size := by rw [h]; kernel_rfl
theorem sd_one (B : Option Addr) (n c : Nat) (S : Option Addr) (m d : Nat) : (sdC B n c S m d).toArray.all (·.oneCell') = true := all_oneCell_toArray fun v hv => by
  simp only [sdC, List.mem_cons, List.not_mem_nil, or_false] at hv
  rcases hv with rfl | rfl <;> rfl
theorem built98k (k : Int) : Try.prog.built 98 [(0, .int .i64 k)] = some (kvC ⟨k, 0, none, 0, 0, none, 0, 0⟩).toArray := by kernel_rfl
theorem sd_range {W : World} {g : Nat} {B : Option Addr} {n c : Nat} {S : Option Addr} {m d : Nat} (h : Blk W g 37 (sdC B n c S m d).toArray) : W.rangeAt g 0 (sdC B n c S m d) := Blk.range h
theorem blk_set3 {w : World} {g : Nat} {k : Int} (h : Blk w g 98 (kvC ⟨k, 0, none, 0, 0, none, 0, 0⟩).toArray) (i : Int) (C : Option Addr) (n c : Nat) (D : Option Addr) (m d : Nat) : Blk (w.setCells g 1 (sgV i C n c D m d)) g 98 (kvC ⟨k, i, C, n, c, D, m, d⟩).toArray := by
  have h1 := heap_setCell_same w g 1 _ 98 (.int .i64 i) h
  have h2 := heap_setCell_same _ g 2 _ 98 (.slice C n c) h1
  have h3 := heap_setCell_same _ g 3 _ 98 (.slice D m d) h2
  exact h3
theorem kept_set3 (w : World) (g o : Nat) (i : Int) (C : Option Addr) (n c : Nat) (D : Option Addr) (m d : Nat) : KeptIn (fun q => q ≠ g) w (w.setCells g o (sgV i C n c D m d)) :=
  (((KeptIn.refl _ _).setAt (p := ⟨g, o, none⟩) (fun h => h rfl) _).setAt (p := ⟨g, o + 1, none⟩) (fun h => h rfl) _).setAt (p := ⟨g, o + 1 + 1, none⟩) (fun h => h rfl) _
theorem there_set3 {w : World} {g : Nat} {k : Int} (h : Blk w g 98 (kvC ⟨k, 0, none, 0, 0, none, 0, 0⟩).toArray) : w.there g 1 3 := by
  intro j hj
  refine ⟨?_, h.frozen _⟩
  rw [h.cell]
  rcases (show j = 0 ∨ j = 1 ∨ j = 2 by omega) with rfl | rfl | rfl <;> rfl
theorem keysR_stop {s : RS} {i : Nat} (h : (keysR i s).2.bad = true) : ∀ m, i ≤ m → keysR m s = keysR i s
  | 0, hm => by rw [Nat.le_zero.1 hm]
  | m + 1, hm => by
    rcases Nat.lt_or_ge m i with h1 | h1
    · rw [show i = m + 1 by omega]
    · have e := keysR_stop h m h1
      simp only [keysR]
      rw [e, if_pos h]
theorem keysR_go {s : RS} {i : Nat} (h : (keysR i s).2.bad = false) : keysR (i + 1) s = keyR (keysR i s).1 (keysR i s).2 := by
  simp only [keysR]
  rw [if_neg (by rw [h]; decide)]
/-- What holds of the result that is being read. -/
def SgI (X3 R2 B3 : Nat) (B : Option Addr) (L c : Nat) (body : List UInt8) (S : Option Addr) (sn sc : Nat) (ks : List Kv) (xs : List Ky) (W : World) : Prop :=
  Blk W X3 37 (sdC B L c S sn sc).toArray ∧ L ≤ c ∧ sn ≤ sc ∧ TRd W 5 1 B L (body.map byteV) ∧ AppZ W B3 98 4 (.slice S sn sc) sn (ks.flatMap kvC) ∧ KvsOk W ks xs ∧ (∀ g, (Value.slice S sn sc).ownBlock = some g → ∃ cur, Blk W g 98 cur) ∧ Blk W R2 37 (sdC none 0 0 none 0 0).toArray
theorem SgI.only {X3 R2 B3 rb : Nat} {B : Option Addr} {L c : Nat} {body : List UInt8} {S : Option Addr} {sn sc : Nat} {ks : List Kv} {xs : List Ky} {W W' : World} (h : SgI X3 R2 B3 B L c body S sn sc ks xs W) (ho : Only rb W W') (hB : ∃ cs, Blk W rb 88 cs) (hrb : rb < B3) : SgI X3 R2 B3 B L c body S sn sc ks xs W' := by
  obtain ⟨h1, h2, h3, h4, h5, h6, h7, h8⟩ := h
  obtain ⟨cs, hB⟩ := hB
  have hs : ∀ t, t ≠ 88 → ∀ b cur, Blk W b t cur → b ≠ rb ∧ b < W.heap.size := fun t h b cur hb => ⟨hb.ne hB h, hb.lt⟩
  exact ⟨h1.keptIn ho (hs _ (by decide) _ _ h1), h2, h3, h4.keptIn ho (hs _ (by decide)), h5.only ho hrb, h6.keptIn ho (hs _ (by decide)), fun g e => by obtain ⟨cur, hc⟩ := h7 g e; exact ⟨cur, hc.keptIn ho (hs _ (by decide) _ _ hc)⟩, h8.keptIn ho (hs _ (by decide) _ _ h8)⟩
/-- One more signature is there. -/
theorem sg_next {X3 R2 B3 : Nat} {B S S' : Option Addr} {L c sn sc sc' : Nat} {body : List UInt8} {ks : List Kv} {xs : List Ky} {kv : Kv} {ky : Ky} {wn wz we : World} (he : we = wz.setCell ⟨X3, 1, none⟩ (.slice S' (sn + 1) sc')) (_ha : AppZ wn B3 98 4 (.slice S sn sc) sn (ks.flatMap kvC)) (hg : wn.grownBy wz (Value.slice S sn sc).ownBlock)
    (haz : AppZ wz B3 98 4 (.slice S' (sn + 1) sc') (sn + 1) (ks.flatMap kvC ++ kvC kv)) (hx : Blk wz X3 37 (sdC B L c S sn sc).toArray) (hbc : L ≤ c) (hsc : sn + 1 ≤ sc') (htb : TRd wn 5 1 B L (body.map byteV)) (hks : KvsOk wn ks xs)
    (how : ∀ g, (Value.slice S sn sc).ownBlock = some g → ∃ cur, Blk wn g 98 cur) (hr2 : Blk wn R2 37 (sdC none 0 0 none 0 0).toArray) (_ : X3 < B3) (_ : R2 < B3) (hR3 : R2 ≠ X3) (hkv : KvOk wn kv ky) : SgI X3 R2 B3 B L c body S' (sn + 1) sc' (ks ++ [kv]) (xs ++ [ky]) we := by
  have kg : KeptIn (fun q => q < wn.heap.size ∧ some q ≠ (Value.slice S sn sc).ownBlock) wn wz := KeptIn.grown (KeptIn.refl _ wn) hg (fun q hq => hq.1) (fun q e hq => hq.2 e.symm)
  have kx : KeptIn (fun q => q ≠ X3) wz we := by rw [he]; exact (KeptIn.refl _ wz).setAt (fun h => h rfl) _
  have sg : ∀ t, t ≠ 98 → ∀ b cur, Blk wn b t cur → b < wn.heap.size ∧ some b ≠ (Value.slice S sn sc).ownBlock := fun t h b cur hb => ⟨hb.lt, fun e => by obtain ⟨cur', hc⟩ := how b e.symm; exact hb.ne hc h rfl⟩
  have sx : ∀ t, t ≠ 37 → ∀ b cur, Blk wz b t cur → b ≠ X3 := fun t h b cur hb => hb.ne hx h
  refine ⟨by rw [he]; exact heap_setCell_same wz X3 1 _ 37 _ hx, hbc, hsc, (htb.keptIn kg (sg _ (by decide))).keptIn kx (sx _ (by decide)), ?_, ?_, fun g e => ?_, ?_⟩
  · rw [he, List.flatMap_append, show [kv].flatMap kvC = kvC kv by simp]
    exact haz.setAt hx (by decide)
  · exact ((hks.keptIn kg (sg _ (by decide))).keptIn kx (sx _ (by decide))).snoc ((hkv.keptIn kg (sg _ (by decide))).keptIn kx (sx _ (by decide)))
  · obtain ⟨cur, hc⟩ := haz.row (by omega) g e
    exact ⟨cur, hc.keptIn kx (sx _ (by decide) _ _ hc)⟩
  · exact (hr2.keptIn kg (sg _ (by decide) _ _ hr2)).keptIn kx hR3
/-- What signed answers. -/
def SignedRR (rb : Nat) (s : RS) (w : World) (e : Ending) (w' : World) : Prop :=
  (∃ (B : Option Addr) (c : Nat) (S : Option Addr) (sn sc : Nat), e = .returned (.agg (sdC B (signedR s).1.1.length c S sn sc).toArray) ∧ (signedR s).1.1.length ≤ c ∧ sn ≤ sc ∧ TRd w' 5 1 B (signedR s).1.1.length ((signedR s).1.1.map byteV) ∧ SgsAt w' S sn (signedR s).1.2) ∧ RdR w' rb (signedR s).2 ∧ Only rb w w'
/-- The result is stored. -/
theorem sg_res {R2 B3 rb : Nat} {B S : Option Addr} {L c sn sc : Nat} {body : List UInt8} {ks : List Kv} {xs : List Ky} {st : RS} {w W : World} (hr2 : Blk W R2 37 (sdC none 0 0 none 0 0).toArray) (htb : TRd W 5 1 B L (body.map byteV)) (hks : KvsOk W ks xs) (hap : AppZ W B3 98 4 (.slice S sn sc) sn (ks.flatMap kvC)) (how : ∀ g, (Value.slice S sn sc).ownBlock = some g → ∃ cur, Blk W g 98 cur)
    (hrd : RdR W rb st) (ho : Only rb w W) (hRw : w.heap.size ≤ R2) (_ : R2 < B3) (hrb : rb < R2) :
    Blk (W.setRow R2 (sdC B L c S sn sc).toArray) R2 37 (sdC B L c S sn sc).toArray ∧ TRd (W.setRow R2 (sdC B L c S sn sc).toArray) 5 1 B L (body.map byteV) ∧ SgsAt (W.setRow R2 (sdC B L c S sn sc).toArray) S sn xs ∧ RdR (W.setRow R2 (sdC B L c S sn sc).toArray) rb st ∧ Only rb w (W.setRow R2 (sdC B L c S sn sc).toArray) := by
  have k1 : KeptIn (fun q => q ≠ R2) W (W.setRow R2 (sdC B L c S sn sc).toArray) := (KeptIn.refl (fun q => q ≠ R2) W).setRow (g := R2) (fun h => h rfl) _
  have hs : ∀ t, t ≠ 37 → ∀ b cur, Blk W b t cur → b ≠ R2 := fun t h b cur hb => hb.ne hr2 h
  obtain ⟨A', c', e, _, hr⟩ := hap.rd
  cases e
  have htS : TRd W 98 4 S sn (ks.flatMap kvC) := ⟨hr, fun h0 b off e => how b (by rw [e]; rfl)⟩
  exact ⟨setRow_heap _ _ _ _ _ _ hr2, htb.keptIn k1 (hs _ (by decide)), ⟨ks, htS.keptIn k1 (hs _ (by decide)), hks.keptIn k1 (hs _ (by decide))⟩, hrd.keptIn k1 (fun b hb => by omega), KeptIn.trans ho (KeptIn.mono k1 fun q hq => by have := hq.2; omega)⟩
set_option maxRecDepth 100000 in
set_option maxHeartbeats 3000000 in
theorem signedR_any (rb : Nat) (s : RS) (w : World) (hS : RdR w rb s) :
    Calls Try.prog 41 #[.pointer (some ⟨rb, 0, none⟩)] w (SignedRR rb s w) := by
  obtain ⟨iSD, hiSD, hzSD, _, _⟩ := info_parts infoSD
  obtain ⟨i98, hi98, hz98, hs98, hy98⟩ := info_parts info98
  obtain ⟨i37, hi37, hz37, _, _⟩ := info_parts info37
  obtain ⟨i0, hi0, hz0, hz1, hz2⟩ := info_parts info5
  obtain ⟨dSD, hdSD, hrowSD⟩ := und37r
  obtain ⟨d37, hd37, hrow37⟩ := und37
  obtain ⟨d98, hd98, hrow98⟩ := und98
  obtain ⟨body, hbody⟩ : ∃ q, q = (textR s).1 := ⟨_, rfl⟩
  obtain ⟨s1, hs1⟩ : ∃ q, q = (textR s).2 := ⟨_, rfl⟩
  obtain ⟨m, hm⟩ : ∃ q, q = (oneR s1).1 := ⟨_, rfl⟩
  obtain ⟨s2, hs2⟩ : ∃ q, q = (oneR s1).2 := ⟨_, rfl⟩
  have Hsg := Lib.hid (show signedR s = ((body, (keysR m s2).1), (keysR m s2).2) by rw [hbody, hm, hs2, hs1]; rfl)
  have hm256 : m < 256 := by rw [hm]; exact UInt8.toNat_lt _
  have Hb := Lib.hid hbody
  have Hs1 := Lib.hid hs1
  have Hm := Lib.hid hm
  have Hs2 := Lib.hid hs2
  obtain ⟨R2, hR2⟩ : ∃ q, q = w.heap.size := ⟨_, rfl⟩
  obtain ⟨w1, hw1⟩ : ∃ q, q = w.alloc (.cells (sdC none 0 0 none 0 0).toArray 37) := ⟨_, rfl⟩
  have hb1 : Below w.heap.size w w1 := by rw [hw1]; exact (Below.refl _ _).alloc (Nat.le_refl _) _
  have HR1 := Lib.hid (show Blk w1 R2 37 (sdC none 0 0 none 0 0).toArray by rw [hw1, hR2]; exact Blk.new _ _ _)
  have hrR : rb < R2 := by rw [hR2]; exact hS.lt
  have hRw : w.heap.size ≤ R2 := by omega
  have HS1 := Lib.hid (hS.below hb1)
  have HO1 := Lib.hid (show Only rb w w1 from Only.of_below hb1)
  have HRb := Lib.hid (show ∃ cs, Blk w1 rb 88 cs by obtain ⟨A, c, h, _⟩ := hS.below hb1; exact ⟨_, h⟩)
  have HW1 := Lib.hid hw1
  have HR2 := Lib.hid hR2
  clear hbody hs1 hm hs2 hR2 hw1 hb1 hS
  go_enter Try.func41, Try.ntmps41
  go_upto_region 1 with (refine wpList_alloc0 rfl 37 rfl (sdC none 0 0 none 0 0).toArray _ iSD hiSD hzSD rfl ?_; simp only [Act.put, List.setIfInBounds_toArray, List.set_cons_succ, List.set_cons_zero])
  rw [← HW1.out, ← HR2.out]
  have ht := textR_any rb s w1 HS1.out
  go_upto_region 2 with fail
  refine ht.mono ?_
  rintro e w2 ⟨⟨B, c, rfl, hbc, ha2⟩, hS2, ho2⟩
  rw [← Hb.out] at ha2 hbc
  rw [← Hs1.out] at hS2
  rw [← Hb.out]
  obtain ⟨L, hL⟩ : ∃ q, q = body.length := ⟨_, rfl⟩
  rw [← hL] at ha2 hbc
  rw [← hL]
  obtain ⟨B', c', eB, _, htb⟩ := ha2.trd1
  cases eB
  obtain ⟨X3, hX3⟩ : ∃ q, q = w2.heap.size := ⟨_, rfl⟩
  obtain ⟨w3, hw3⟩ : ∃ q, q = w2.alloc (.cells (sdC B L c none 0 0).toArray 37) := ⟨_, rfl⟩
  have hb3 : Below w2.heap.size w2 w3 := by rw [hw3]; exact (Below.refl _ _).alloc (Nat.le_refl _) _
  have HX3 := Lib.hid (show Blk w3 X3 37 (sdC B L c none 0 0).toArray by rw [hw3, hX3]; exact Blk.new _ _ _)
  have hR3' : R2 < X3 := by rw [hX3]; exact Nat.lt_of_lt_of_le HR1.out.lt ho2.size
  have HR3 := Lib.hid ((ho2.blk HR1.out (by omega)).below hb3 (Nat.lt_of_lt_of_le HR1.out.lt ho2.size))
  have HT3 := Lib.hid (htb.below hb3)
  have HS3 := Lib.hid (hS2.below hb3)
  have HO3 := Lib.hid ((HO1.out.trans ho2).trans (Only.of_below hb3))
  have HL := Lib.hid hL
  have HW3 := Lib.hid hw3
  have HX3e := Lib.hid hX3
  clear ha2 hS2 ho2 htb hw3 hX3 hb3 hL ht HS1 HO1 HR1 HW1 HRb
  go_upto_region 2 with (first | (refine wpList_buildN rfl 37 _ rfl [(0, .slice B L c)] rfl _ (builtSD B L c) ?_) | (refine wpList_alloc0 rfl 37 rfl (sdC none 0 0 none 0 0).toArray _ iSD hiSD hzSD rfl ?_; simp only [Act.put, List.setIfInBounds_toArray, List.set_cons_succ, List.set_cons_zero]) | (refine wpList_store_row rfl 37 (.tmp 3) (.tmp 13) rfl w2.heap.size (sdC B L c none 0 0).toArray rfl rfl 37 _ (Blk.new w2 _ _) (sizeSD _ rfl) rfl (sd_one _ _ _ _ _ _) ?_; rw [alloc_setRow]))
  rw [← HW3.out, ← HX3e.out]
  obtain ⟨B3, hB3⟩ : ∃ q, q = w3.heap.size := ⟨_, rfl⟩
  have hX3B : X3 < B3 := by rw [hB3]; exact HX3.out.lt
  have hrb3 : rb < B3 := by omega
  have hr2b : R2 < B3 := by omega
  have hR3 : R2 ≠ X3 := by omega
  have hwB : w.heap.size ≤ B3 := by omega
  have ht := oneR_any rb s1 w3 HS3.out
  go_upto_region 3 with fail
  refine ht.mono ?_
  rintro e w4 ⟨rfl, hS4, ho4⟩
  rw [← Hm.out]
  rw [← Hs2.out] at hS4
  have hI4 : SgI X3 R2 B3 B L c body none 0 0 [] (keysR 0 s2).1 w3 := ⟨HX3.out, hbc, Nat.le_refl _, HT3.out, AppZ.nil _, KvsOk.nil _, (fun g e => by cases e), HR3.out⟩
  have HI4 := Lib.hid (hI4.only ho4 (by obtain ⟨A, c, h, _⟩ := HS3.out; exact ⟨_, h⟩) hrb3)
  have HS4 := Lib.hid hS4
  have HO4 := Lib.hid (HO3.out.trans ho4)
  have hB4 : B3 ≤ w4.heap.size := by have := ho4.size; omega
  clear hI4 hS4 ho4 ht HS3 HO3 HX3 HT3 HR3 HW3 HX3e hB3 Hm Hs2 Hb Hs1
  go_upto_region 4 with fail
  go_loopw [5] (fun v5 wr => ∃ (i : Nat) (S : Option Addr) (sn sc : Nat) (ks : List Kv), v5 = .int .i64 (i : Int) ∧ i ≤ m ∧ sn = i ∧ SgI X3 R2 B3 B L c body S sn sc ks (keysR i s2).1 wr ∧ RdR wr rb (keysR i s2).2 ∧ Only rb w wr ∧ B3 ≤ wr.heap.size) (fun v5 _ => m - (intOf v5).toNat)
  case atStart => exact ⟨0, none, 0, 0, [], rfl, Nat.zero_le _, rfl, HI4.out, HS4.out, HO4.out, hB4⟩
  case round =>
    obtain ⟨i, S, sn, sc, ks, rfl, hi, hsni, hI, hR, hO, hBr⟩ := hrel
    have Hsni := Lib.hid hsni
    have hsnl : sn ≤ i := by omega
    clear hsni
    obtain ⟨xs, hxs⟩ : ∃ q, q = (keysR i s2).1 := ⟨_, rfl⟩
    obtain ⟨st, hst⟩ : ∃ q, q = (keysR i s2).2 := ⟨_, rfl⟩
    rw [← hxs] at hI
    rw [← hst] at hR
    have hxe : keysR i s2 = (xs, st) := by rw [hxs, hst]
    have Hxe := Lib.hid hxe
    have HI := Lib.hid hI
    have HRr := Lib.hid hR
    have HOr := Lib.hid hO
    obtain ⟨A0, cA0, hblk, _⟩ := hR
    have hrdB := Lib.hid (show ∃ cs, Blk wr rb 88 cs from ⟨_, hblk⟩)
    clear hI HI4 HS4 HO4 hxs hst hxe
    by_cases hlt : i < m
    rotate_left
    · have d0 : decide ((i : Int) < (m : Int)) = false := decide_eq_false (by omega)
      have d0' : ¬ (i : Int) < (m : Int) := by omega
      have Hkm := Lib.hid (show keysR m s2 = (xs, st) by rw [show m = i by omega]; exact Hxe.out)
      clear hblk hO
      obtain ⟨hx, hbc, hsc, htb, hap, hks, how, hr2⟩ := HI.out
      have Hk := Lib.hid (sd_range hx)
      have Hr2 := Lib.hid hr2
      have Hres := Lib.hid (sg_res (c := c) hr2 htb hks hap how HRr.out HOr.out hRw hr2b (by omega))
      clear hx htb hap hks how hr2
      go_wp2_with (first | (refine wpList_load_mid rfl 37 (.tmp 3) rfl X3 0 rfl (sdC B L c S sn sc) dSD Hk.out hdSD hrowSD (by kernel_rfl) ?_) | (refine wpList_store_row rfl 37 (.tmp 2) (.tmp 69) rfl R2 (sdC B L c S sn sc).toArray rfl rfl 37 _ Hr2.out (sizeSD _ rfl) rfl (sd_one _ _ _ _ _ _) ?_))
      obtain ⟨q1, q2, q3, q4, q5⟩ := Hres.out
      refine bodyPost_ret (results_cell_row rfl _ _ R2 37 (sdC B L c S sn sc).toArray (0, 0) dSD rfl q1 hdSD (by cases dSD <;> first | rfl | exact hrowSD) (sizeSD _ rfl)) rfl ?_
      unfold SignedRR
      rw [Hsg.out, Hkm.out]
      dsimp only
      rw [← HL.out]
      exact ⟨⟨B, c, S, sn, sc, rfl, hbc, hsc, q2, q3⟩, q4, q5⟩
    have d0 : decide ((i : Int) < (m : Int)) = true := decide_eq_true (by omega)
    have d0' : (i : Int) < (m : Int) := by omega
    have hiw : IntKind.i64.wrap ((i : Int) + 1) = (i : Int) + 1 := by rw [IntKind.wrap_i64]; omega
    have c1 : wr.cell? ⟨rb, 1, none⟩ = some (.bool st.bad) := (hblk.cell 1).trans rfl
    obtain ⟨sb, bad⟩ := st
    dsimp only at c1
    cases bad with
    | true =>
      have Hkm := Lib.hid (show keysR m s2 = (xs, ⟨sb, true⟩) by rw [keysR_stop (by rw [Hxe.out]) m hi]; exact Hxe.out)
      clear hblk hO
      obtain ⟨hx, hbc, hsc, htb, hap, hks, how, hr2⟩ := HI.out
      have Hk := Lib.hid (sd_range hx)
      have Hr2 := Lib.hid hr2
      have Hres := Lib.hid (sg_res (c := c) hr2 htb hks hap how HRr.out HOr.out hRw hr2b (by omega))
      clear hx htb hap hks how hr2
      go_wp2_with (first | (refine wpList_load_mid rfl 37 (.tmp 3) rfl X3 0 rfl (sdC B L c S sn sc) dSD Hk.out hdSD hrowSD (by kernel_rfl) ?_) | (refine wpList_store_row rfl 37 (.tmp 2) (.tmp 69) rfl R2 (sdC B L c S sn sc).toArray rfl rfl 37 _ Hr2.out (sizeSD _ rfl) rfl (sd_one _ _ _ _ _ _) ?_))
      obtain ⟨q1, q2, q3, q4, q5⟩ := Hres.out
      refine bodyPost_ret (results_cell_row rfl _ _ R2 37 (sdC B L c S sn sc).toArray (0, 0) dSD rfl q1 hdSD (by cases dSD <;> first | rfl | exact hrowSD) (sizeSD _ rfl)) rfl ?_
      unfold SignedRR
      rw [Hsg.out, Hkm.out]
      dsimp only
      rw [← HL.out]
      exact ⟨⟨B, c, S, sn, sc, rfl, hbc, hsc, q2, q3⟩, q4, q5⟩
    | false =>
      clear hblk hO
      have hstep := keysR_go (s := s2) (i := i) (by rw [Hxe.out])
      rw [Hxe.out] at hstep
      dsimp only at hstep
      obtain ⟨key, hkey⟩ : ∃ q, q = (oneR ⟨sb, false⟩).1 := ⟨_, rfl⟩
      obtain ⟨t1, ht1⟩ : ∃ q, q = (oneR ⟨sb, false⟩).2 := ⟨_, rfl⟩
      obtain ⟨h, hh⟩ : ∃ q, q = (takR 2 t1).1 := ⟨_, rfl⟩
      obtain ⟨t2, ht2⟩ : ∃ q, q = (takR 2 t1).2 := ⟨_, rfl⟩
      obtain ⟨y, hy⟩ : ∃ q, q = h.getD 1 0 := ⟨_, rfl⟩
      have hkr : keyR xs ⟨sb, false⟩ = if 4 < y.toNat then (xs, ⟨t2.b, true⟩) else (xs ++ [⟨(key : Int), (parS (h ++ (takR (32 * (67 + y.toNat)) t2).1)).1⟩], ⟨(takR (32 * (67 + y.toNat)) t2).2.b, (takR (32 * (67 + y.toNat)) t2).2.bad || !formP (h ++ (takR (32 * (67 + y.toNat)) t2).1)⟩) := by
        rw [hkey, hy, hh, ht2, ht1]; rfl
      rw [hkr] at hstep
      have Hky := Lib.hid hkey
      have Ht1 := Lib.hid ht1
      have Hh := Lib.hid hh
      have Ht2 := Lib.hid ht2
      have Hst := Lib.hid hstep
      have hyl := y.toNat_lt
      have Hy := Lib.hid hy
      have hkl : key < 256 := by rw [hkey]; exact UInt8.toNat_lt _
      clear hkey ht1 hh ht2 hstep hkr hy
      have ht := oneR_any rb ⟨sb, false⟩ wr HRr.out
      go_upto_region 6 with fail
      clear c1
      go_upto_region 7 with fail
      refine ht.mono ?_
      rintro e w5 ⟨rfl, hS5, ho5⟩
      rw [← Hky.out]
      rw [← Ht1.out] at hS5
      obtain ⟨X6, hX6⟩ : ∃ q, q = w5.heap.size := ⟨_, rfl⟩
      obtain ⟨w6, hw6⟩ : ∃ q, q = w5.alloc (.cells (kvC ⟨(key : Int), 0, none, 0, 0, none, 0, 0⟩).toArray 98) := ⟨_, rfl⟩
      have hb6 : Below w5.heap.size w5 w6 := by rw [hw6]; exact (Below.refl _ _).alloc (Nat.le_refl _) _
      have HX6 := Lib.hid (show Blk w6 X6 98 (kvC ⟨(key : Int), 0, none, 0, 0, none, 0, 0⟩).toArray by rw [hw6, hX6]; exact Blk.new _ _ _)
      have hX66 : X6 < w6.heap.size := HX6.out.lt
      have hX6r : wr.heap.size ≤ X6 := by rw [hX6]; exact ho5.size
      have HS6 := Lib.hid (hS5.below hb6)
      have HO6 := Lib.hid (ho5.trans (Only.of_below hb6))
      have HW6 := Lib.hid hw6
      have HX6e := Lib.hid hX6
      clear ht hS5 ho5 hb6 hw6 hX6
      go_upto_region 7 with (first | (refine wpList_buildN rfl 98 _ rfl [(0, .int .i64 (key : Int))] rfl _ (built98k _) ?_) | (refine wpList_alloc0 rfl 98 rfl (kvC ⟨0, 0, none, 0, 0, none, 0, 0⟩).toArray _ i98 hi98 hz98 rfl ?_; simp only [Act.put, List.setIfInBounds_toArray, List.set_cons_succ, List.set_cons_zero]) | (refine wpList_store_row rfl 98 (.tmp 6) (.tmp 30) rfl w5.heap.size (kvC ⟨(key : Int), 0, none, 0, 0, none, 0, 0⟩).toArray rfl rfl 98 _ (Blk.new w5 _ _) (size98 _ rfl) rfl (all_oneCell_toArray (kv_one _)) ?_; rw [alloc_setRow]))
      rw [← HW6.out, ← HX6e.out]
      have ht : Calls Try.prog 58 #[.pointer (some ⟨rb, 0, none⟩), .int .i64 2] w6 (TakeRR rb 2 t1 w6) := takeR_any rb 2 t1 w6 HS6.out (by omega)
      clear HW6 HX6e
      go_upto_region 8 with fail
      refine ht.mono ?_
      rintro e w7 ⟨⟨Hd, c7, rfl, hc7, ha7⟩, hS7, ho7⟩
      rw [← Hh.out] at ha7
      rw [← Ht2.out] at hS7
      obtain ⟨Hd', c7', eH, _, hr7⟩ := ha7.rd
      cases eH
      obtain ⟨hb', ho', rfl, hby⟩ := byte_of hr7 (by omega)
      have cy : w7.cell? ⟨hb', ho' + 1, none⟩ = some (.int .u8 (y.toNat : Int)) := by rw [Hy.out]; exact hby w7 1 hr7 (by omega)
      have hX6rb : X6 ≠ rb := by omega
      replace HX6 := Lib.hid (ho7.blk HX6.out hX6rb)
      have HO7 := Lib.hid (HO6.out.trans ho7)
      have HS7 := Lib.hid hS7
      have Ha7 := Lib.hid ha7
      have hs67 : w6.heap.size ≤ w7.heap.size := ho7.size
      have hX6w : X6 < w7.heap.size := HX6.out.lt
      clear ht ha7 hS7 ho7 hr7 hby HS6 HO6
      by_cases h4 : 4 < y.toNat
      · have d4 : decide ((y.toNat : Int) > 4) = true := decide_eq_true (by omega)
        have d4' : (4 : Int) < (y.toNat : Int) := by omega
        have d4n : decide (4 < y.toNat) = true := decide_eq_true h4
        have Hkm := Lib.hid (show keysR m s2 = (xs, ⟨t2.b, true⟩) by
          have e := Hst.out
          rw [if_pos h4] at e
          rw [keysR_stop (i := i + 1) (by rw [e]) m (by omega)]
          exact e)
        obtain ⟨A7, c7', hb7, hl7, hr7, hd7⟩ := HS7.out
        have cb : w7.cell? ⟨rb, 1, none⟩ = some (.bool t2.bad) := (hb7.cell 1).trans rfl
        have zb := hb7.frozen 1
        obtain ⟨w8, hw8⟩ : ∃ q, q = w7.setCell ⟨rb, 1, none⟩ (.bool true) := ⟨_, rfl⟩
        have ho8 : Only rb w7 w8 := by rw [hw8]; exact KeptIn.setAt (KeptIn.refl _ w7) (p := ⟨rb, 1, none⟩) (fun hk => hk.1 rfl) _
        have HRk := Lib.hid (show RdR w8 rb ⟨t2.b, true⟩ from ⟨A7, c7', by rw [hw8]; exact heap_setCell_same w7 rb 1 _ 88 _ hb7, hl7, rd_only hr7 (by omega) ho8 fun h0 b off e => Nat.ne_of_lt (hd7 h0 b off e), hd7⟩)
        have HI8 := Lib.hid (HI.out.only (HO7.out.trans ho8) hrdB.out hrb3)
        have HO8 := Lib.hid (HOr.out.trans (HO7.out.trans ho8))
        have HW8 := Lib.hid hw8
        clear hb7 hr7 hd7 ho8 hw8
        go_upto_region 10 with fail
        rw [← HW8.out]
        clear cb zb cy d4 d4' d4n
        obtain ⟨hx, hbc, hsc, htb, hap, hks, how, hr2⟩ := HI8.out
        have Hk := Lib.hid (sd_range hx)
        have Hr2 := Lib.hid hr2
        have Hres := Lib.hid (sg_res (c := c) hr2 htb hks hap how HRk.out HO8.out hRw hr2b (by omega))
        clear hx htb hap hks how hr2
        go_wp2_with (first | (refine wpList_load_mid rfl 37 (.tmp 3) rfl X3 0 rfl (sdC B L c S sn sc) dSD Hk.out hdSD hrowSD (by kernel_rfl) ?_) | (refine wpList_store_row rfl 37 (.tmp 2) (.tmp 40) rfl R2 (sdC B L c S sn sc).toArray rfl rfl 37 _ Hr2.out (sizeSD _ rfl) rfl (sd_one _ _ _ _ _ _) ?_))
        obtain ⟨q1, q2, q3, q4, q5⟩ := Hres.out
        refine bodyPost_ret (results_cell_row rfl _ _ R2 37 (sdC B L c S sn sc).toArray (0, 0) dSD rfl q1 hdSD (by cases dSD <;> first | rfl | exact hrowSD) (sizeSD _ rfl)) rfl ?_
        unfold SignedRR
        rw [Hsg.out, Hkm.out]
        dsimp only
        rw [← HL.out]
        exact ⟨⟨B, c, S, sn, sc, rfl, hbc, hsc, q2, q3⟩, q4, q5⟩
      · have d4 : decide ((y.toNat : Int) > 4) = false := decide_eq_false (by omega)
        have d4' : ¬ (4 : Int) < (y.toNat : Int) := by omega
        have d4n : decide (4 < y.toNat) = false := decide_eq_false h4
        obtain ⟨N, hN⟩ : ∃ q, q = 32 * (67 + y.toNat) := ⟨_, rfl⟩
        have e := Hst.out
        rw [if_neg h4, ← hN] at e
        obtain ⟨r, hr⟩ : ∃ q, q = (takR N t2).1 := ⟨_, rfl⟩
        obtain ⟨t3, ht3⟩ : ∃ q, q = (takR N t2).2 := ⟨_, rfl⟩
        rw [← hr, ← ht3] at e
        obtain ⟨sg, hsg⟩ : ∃ q, q = (parS (h ++ r)).1 := ⟨_, rfl⟩
        obtain ⟨er, her⟩ : ∃ q, q = (parS (h ++ r)).2 := ⟨_, rfl⟩
        obtain ⟨fm, hfm⟩ : ∃ q, q = formP (h ++ r) := ⟨_, rfl⟩
        rw [← hsg, ← hfm] at e
        obtain ⟨st', hst'⟩ : ∃ q : RS, q = ⟨t3.b, t3.bad || !fm⟩ := ⟨_, rfl⟩
        rw [← hst'] at e
        have Hstep := Lib.hid e
        have Hef := Lib.hid (show er = if fm = true then 0 else 3 by rw [her, hfm]; unfold parS; split <;> rfl)
        have Hr_ := Lib.hid hr
        have Ht3 := Lib.hid ht3
        have Hsg_ := Lib.hid hsg
        have Her := Lib.hid her
        have Hst' := Lib.hid hst'
        have hNl : N ≤ 2272 := by omega
        have w1i : IntKind.i64.wrap (y.toNat : Int) = (y.toNat : Int) := by rw [IntKind.wrap_i64]; omega
        have w2i : IntKind.i64.wrap (67 + (y.toNat : Int)) = 67 + (y.toNat : Int) := by rw [IntKind.wrap_i64]; omega
        have w3i : IntKind.i64.wrap (32 * (67 + (y.toNat : Int))) = (N : Int) := by rw [IntKind.wrap_i64]; omega
        have ht := takeR_any rb N t2 w7 HS7.out (by omega)
        clear e hr ht3 hsg her hfm hst' hN Hst
        go_upto_region 11 with fail
        go_upto_region 12 with fail
        refine ht.mono ?_
        rintro e w8 ⟨⟨Rr, c8, rfl, hc8, ha8⟩, hS8, ho8⟩
        rw [← Hr_.out] at ha8
        rw [← Ht3.out] at hS8
        obtain ⟨Rr', c8', eR, _, hr8⟩ := ha8.rd
        cases eR
        replace HX6 := Lib.hid (ho8.blk HX6.out hX6rb)
        have HO8 := Lib.hid (HO7.out.trans ho8)
        have HS8 := Lib.hid hS8
        have Hr8 := Lib.hid hr8
        have Ha8 := Lib.hid (Ha7.out.only ho8 (by have := HX6.out.lt; omega))
        have hs8 : w6.heap.size ≤ w8.heap.size := by have := ho8.size; omega
        clear ht ha8 hS8 ho8 hr8 cy w1i w2i w3i d4 d4' d4n Ha7 HS7 HO7
        go_upto_region 13 with (at_builtin; refine wpList_appz rfl (.tmp 50) (.tmp 51) 26 rfl 5 i0 (.int .u8 0) 1 1 Try.underlying26 hi0 hz0 hz1 hz2 rfl (by omega) w6.heap.size hs8 _ 2 (h.map byteV) rfl Ha8.out Rr N c8 (r.map byteV) rfl Hr8.out (oneB _) (by unfold maxLen; omega) (by omega) ?_; intro v' w9 ha9 hg9; rw [← List.map_append] at ha9; obtain ⟨A9, c9, rfl, hc9, hr9⟩ := ha9.rd; have Hr9 := Lib.hid hr9; have Hb9 := Lib.hid ((Below.refl w6.heap.size _).grown hg9 hs8 (fun g e => (Ha8.out.lt g e).1)); clear ha9 hr9 hg9)
        replace HX6 := Lib.hid (HX6.out.below Hb9.out hX66)
        have HO9 := Lib.hid (show Only rb wr w9 from KeptIn.trans HO8.out (KeptIn.of_below Hb9.out fun q hq => by have := hq.2; omega))
        have HS9 := Lib.hid (HS8.out.keptIn (S := fun q => q < w6.heap.size) (KeptIn.of_below Hb9.out fun q hq => hq) fun q hq => by omega)
        have ht := RParse_any A9 (2 + N) c9 (h ++ r) w9 Hr9.out hc9 (by omega)
        rw [← Hsg_.out, ← Her.out] at ht
        clear HO8 HS8 Hr8 Ha8 Hb9
        refine ht.mono ?_
        rintro e wp ⟨⟨C, nn, cc, D, mm, dd, rfl, hnc, hmd, hC, hD⟩, hbp⟩
        obtain ⟨X9, hX9⟩ : ∃ q, q = wp.heap.size := ⟨_, rfl⟩
        obtain ⟨wq, hwq⟩ : ∃ q, q = wp.alloc (.cells (sgV sg.i C nn cc D mm dd).toArray 95) := ⟨_, rfl⟩
        have hbq : Below wp.heap.size wp wq := by rw [hwq]; exact (Below.refl _ _).alloc (Nat.le_refl _) _
        have HX9 := Lib.hid (show Blk wq X9 95 (sgV sg.i C nn cc D mm dd).toArray by rw [hwq, hX9]; exact Blk.new _ _ _)
        replace HX6 := Lib.hid ((HX6.out.below hbp HX6.out.lt).below hbq (by have := HX6.out.lt; have := hbp.size; omega))
        have HOq := Lib.hid ((HO9.out.trans (Only.of_below hbp)).trans (Only.of_below hbq))
        have HSq := Lib.hid ((HS9.out.below hbp).below hbq)
        have HC := Lib.hid (hC.below hbq)
        have HD := Lib.hid (hD.below hbq)
        have HWq := Lib.hid hwq
        have HX9e := Lib.hid hX9
        clear ht hC hD hbp hbq hwq hX9 HO9 HS9 Hr9
        go_upto_region 13 with (first | (refine wpList_alloc0 rfl 95 rfl (sgV 0 none 0 0 none 0 0).toArray _ i37 hi37 hz37 rfl ?_; simp only [Act.put, List.setIfInBounds_toArray, List.set_cons_succ, List.set_cons_zero]) | (refine wpList_store_row rfl 95 (.tmp 9) (.tmp 54) rfl wp.heap.size (sgV sg.i C nn cc D mm dd).toArray rfl rfl 95 _ (Blk.new wp _ _) (size37 _ rfl) rfl (sg_one _ _ _ _ _ _ _) ?_; rw [alloc_setRow]))
        rw [← HWq.out, ← HX9e.out]
        clear HWq HX9e
        cases fm with
        | true =>
          have her0 : er = 0 := Hef.out
          have HRk := Lib.hid (show RdR wq rb st' by rw [Hst'.out]; show RdR wq rb ⟨t3.b, t3.bad || false⟩; rw [Bool.or_false]; exact HSq.out)
          have HOk := HOq
          rw [her0]
          clear HSq HOq her0
          go_upto_region 15 with fail
          obtain ⟨kv, hkv⟩ : ∃ q : Kv, q = ⟨(key : Int), sg.i, C, nn, cc, D, mm, dd⟩ := ⟨_, rfl⟩
          obtain ⟨wu, hwu⟩ : ∃ q, q = wq.setCells X6 1 (sgV sg.i C nn cc D mm dd) := ⟨_, rfl⟩
          have hku : KeptIn (fun q => q ≠ X6) wq wu := by rw [hwu]; exact kept_set3 _ _ _ _ _ _ _ _ _ _
          have hXu : Blk wu X6 98 (kvC kv).toArray := by rw [hwu, hkv]; exact blk_set3 HX6.out _ _ _ _ _ _ _
          have Hth := Lib.hid (show wq.there X6 1 3 from there_set3 HX6.out)
          have hOu : Only rb wr wu := KeptIn.trans HOk.out (KeptIn.mono hku fun q hq => by have := hq.2; omega)
          have hRu : RdR wu rb st' := HRk.out.keptIn hku fun q hq => by omega
          have hne6 : ∀ t, t ≠ 98 → ∀ b cur, Blk wq b t cur → b ≠ X6 := fun t h b cur hb => hb.ne HX6.out h
          have hCu := HC.out.keptIn hku (hne6 _ (by decide))
          have hDu := HD.out.keptIn hku (hne6 _ (by decide))
          have hIu := HI.out.only hOu hrdB.out hrb3
          obtain ⟨hx, hbc, hsc, htb, hap, hks, how, hr2⟩ := hIu
          obtain ⟨wn, hwn⟩ : ∃ q, q = wu.alloc (.cells (kvC kv).toArray 98) := ⟨_, rfl⟩
          have hbn : Below wu.heap.size wu wn := by rw [hwn]; exact (Below.refl _ _).alloc (Nat.le_refl _) _
          have hXn : Blk wn wu.heap.size 98 (kvC kv).toArray := by rw [hwn]; exact Blk.new _ _ _
          have Han := Lib.hid (hap.below hbn (Nat.le_refl _))
          have Hrn := Lib.hid (rd4_one hXn)
          have hsn : B3 ≤ wn.heap.size := by have h1 := hbn.size; have h2 := hOu.size; omega
          have c1 : wu.cell? ⟨X3, 1, none⟩ = some (.slice S sn sc) := (hx.cell 1).trans rfl
          have Hxn := Lib.hid (hx.below hbn hx.lt)
          have Htn := Lib.hid (htb.below hbn)
          have Hkn := Lib.hid (hks.below hbn)
          have Hon := Lib.hid (show ∀ g, (Value.slice S sn sc).ownBlock = some g → ∃ cur, Blk wn g 98 cur from fun g e => by obtain ⟨cur, hc⟩ := how g e; exact ⟨cur, hc.below hbn hc.lt⟩)
          have H2n := Lib.hid (hr2.below hbn hr2.lt)
          have HRn := Lib.hid (hRu.below hbn)
          have HOn := Lib.hid (hOu.trans (Only.of_below hbn))
          have Hkv := Lib.hid (show KvOk wn kv ⟨(key : Int), sg⟩ from by rw [hkv]; exact ⟨rfl, rfl, hnc, hmd, hCu.below hbn, hDu.below hbn⟩)
          have Hrow9 := Lib.hid (Blk.range (cs := sgV sg.i C nn cc D mm dd) HX9.out)
          have Hrow6 := Lib.hid (Blk.range (cs := kvC kv) hXu)
          have HWn := Lib.hid hwn
          have HWu := Lib.hid hwu
          clear hx htb hap hks how hr2 hwn hbn hXn hOu hRu hCu hDu hne6 hku hXu hwu hkv HI HX6 HX9 HC HD HOk HRk
          go_upto_region 16 with (first | (refine wpList_load_mid rfl 95 (.tmp 9) rfl X9 0 rfl (sgV sg.i C nn cc D mm dd) d37 Hrow9.out hd37 hrow37 (by kernel_rfl) ?_) | (refine wpList_store_mid rfl 95 (.tmp 62) (.tmp 61) rfl X6 1 (sgV sg.i C nn cc D mm dd).toArray rfl rfl Hth.out (size37 _ rfl) (sg_one _ _ _ _ _ _ _) ?_; rw [show (sgV sg.i C nn cc D mm dd).toArray.toList = sgV sg.i C nn cc D mm dd from rfl, ← HWu.out]))
          go_wp2_with (first | (refine wpList_load_mid rfl 98 (.tmp 6) rfl X6 0 rfl (kvC kv) d98 Hrow6.out hd98 hrow98 (by rw [kvC_len]; kernel_rfl) ?_) | (refine wpList_build1s rfl 35 98 (.tmp 65) rfl (kvC kv).toArray i98 _ 4 Try.underlying35 hi98 hz98 hs98 (by omega) (by decide) rfl rfl ?_; rw [← HWn.out]) | (at_builtin; refine wpList_appz rfl (.tmp 64) (.tmp 66) 35 rfl 98 i98 _ 4 64 Try.underlying35 hi98 hz98 hs98 hy98 rfl (by omega) B3 hsn (.slice S sn sc) sn (ks.flatMap kvC) rfl Han.out (some ⟨wu.heap.size, 0, none⟩) 1 1 (kvC kv) rfl Hrn.out (kv_one _) (by unfold maxLen; omega) (by omega) ?_; intro v' wz haz hgz; obtain ⟨S', sc', rfl, hsc', _⟩ := haz.rd; have hneX : some X3 ≠ (Value.slice S sn sc).ownBlock := fun e => by { have := (Han.out.lt X3 e.symm).1; omega }; have hxz := Hxn.out.kept hgz hneX; have zz := hxz.frozen 1; have cz : wz.cell? ⟨X3, 1, none⟩ = some (.slice S sn sc) := (hxz.cell 1).trans rfl; have Hxz := Lib.hid hxz; have Haz := Lib.hid haz; have Hgz := Lib.hid hgz; clear hxz haz hgz))
          obtain ⟨we, hwe⟩ : ∃ q, q = wz.setCell ⟨X3, 1, none⟩ (.slice S' (sn + 1) sc') := ⟨_, rfl⟩
          have HE := Lib.hid (sg_next hwe Han.out Hgz.out Haz.out Hxz.out hbc hsc' Htn.out Hkn.out Hon.out H2n.out hX3B hr2b hR3 Hkv.out)
          have HEr : RdR we rb st' := by
            rw [hwe]
            refine (HRn.out.keptIn (S := fun q => q < B3) (KeptIn.grown (KeptIn.refl _ wn) Hgz.out (fun q hq => by omega) (fun q e hq => by have := (Han.out.lt q e).1; omega)) fun q hq => by omega).keptIn ((KeptIn.refl (fun q => q ≠ X3) wz).setAt (fun h => h rfl) _) fun q hq => by omega
          have HEo : Only rb w we := by
            rw [hwe]
            refine KeptIn.trans (KeptIn.trans (HOr.out.trans HOn.out) (KeptIn.grown (KeptIn.refl _ wn) Hgz.out (fun q hq => by have := hq.2; omega) (fun q e hq => by have := hq.2; have := (Han.out.lt q e).1; omega))) ((KeptIn.refl (fun q => q ≠ rb ∧ q < w.heap.size) wz).setAt (fun h => absurd (show X3 < w.heap.size from h.2) (by omega)) _)
          have HEr := Lib.hid HEr
          have HEo := Lib.hid HEo
          have HWE := Lib.hid hwe
          have hBe : B3 ≤ we.heap.size := by rw [hwe, World.size_setCell]; have := Hgz.out.size; omega
          clear hwe Hxz Haz Hgz Han Hrn Hxn Htn Hkn Hon H2n HRn HOn Hkv
          rw [← HWE.out]
          exact ⟨⟨i + 1, S', sn + 1, sc', ks ++ [kv], by push_cast; rfl, by omega, by rw [Hsni.out], by rw [Hstep.out]; exact HE.out, by rw [Hstep.out]; exact HEr.out, HEo.out, hBe⟩, by simp only [intOf]; omega⟩
        | false =>
          have her0 : er = 3 := Hef.out
          rw [her0]
          obtain ⟨A7, c7', hb7, hl7, hr7, hd7⟩ := HSq.out
          have cb : wq.cell? ⟨rb, 1, none⟩ = some (.bool t3.bad) := (hb7.cell 1).trans rfl
          have zb := hb7.frozen 1
          obtain ⟨wv, hwv⟩ : ∃ q, q = wq.setCell ⟨rb, 1, none⟩ (.bool true) := ⟨_, rfl⟩
          have ho8 : Only rb wq wv := by rw [hwv]; exact KeptIn.setAt (KeptIn.refl _ wq) (p := ⟨rb, 1, none⟩) (fun hk => hk.1 rfl) _
          have HRk := Lib.hid (show RdR wv rb st' by rw [Hst'.out]; show RdR wv rb ⟨t3.b, t3.bad || true⟩; rw [Bool.or_true]; exact ⟨A7, c7', by rw [hwv]; exact heap_setCell_same wq rb 1 _ 88 _ hb7, hl7, rd_only hr7 (by omega) ho8 fun h0 b off e => Nat.ne_of_lt (hd7 h0 b off e), hd7⟩)
          have hnr : ∀ t, t ≠ 88 → ∀ b cur, Blk wq b t cur → b ≠ rb ∧ b < wq.heap.size := fun t h b cur hb => ⟨hb.ne hb7 h, hb.lt⟩
          have HOk := Lib.hid (HOq.out.trans ho8)
          replace HX6 := Lib.hid (ho8.blk HX6.out hX6rb)
          replace HX9 := Lib.hid (HX9.out.keptIn ho8 (hnr _ (by decide) _ _ HX9.out))
          replace HC := Lib.hid (HC.out.keptIn ho8 (hnr _ (by decide)))
          replace HD := Lib.hid (HD.out.keptIn ho8 (hnr _ (by decide)))
          have HWv := Lib.hid hwv
          clear hb7 hr7 hd7 ho8 hwv hnr HSq HOq her0
          go_upto_region 15 with fail
          rw [← HWv.out]
          clear cb zb HWv
          obtain ⟨kv, hkv⟩ : ∃ q : Kv, q = ⟨(key : Int), sg.i, C, nn, cc, D, mm, dd⟩ := ⟨_, rfl⟩
          obtain ⟨wu, hwu⟩ : ∃ q, q = wv.setCells X6 1 (sgV sg.i C nn cc D mm dd) := ⟨_, rfl⟩
          have hku : KeptIn (fun q => q ≠ X6) wv wu := by rw [hwu]; exact kept_set3 _ _ _ _ _ _ _ _ _ _
          have hXu : Blk wu X6 98 (kvC kv).toArray := by rw [hwu, hkv]; exact blk_set3 HX6.out _ _ _ _ _ _ _
          have Hth := Lib.hid (show wv.there X6 1 3 from there_set3 HX6.out)
          have hOu : Only rb wr wu := KeptIn.trans HOk.out (KeptIn.mono hku fun q hq => by have := hq.2; omega)
          have hRu : RdR wu rb st' := HRk.out.keptIn hku fun q hq => by omega
          have hne6 : ∀ t, t ≠ 98 → ∀ b cur, Blk wv b t cur → b ≠ X6 := fun t h b cur hb => hb.ne HX6.out h
          have hCu := HC.out.keptIn hku (hne6 _ (by decide))
          have hDu := HD.out.keptIn hku (hne6 _ (by decide))
          have hIu := HI.out.only hOu hrdB.out hrb3
          obtain ⟨hx, hbc, hsc, htb, hap, hks, how, hr2⟩ := hIu
          obtain ⟨wn, hwn⟩ : ∃ q, q = wu.alloc (.cells (kvC kv).toArray 98) := ⟨_, rfl⟩
          have hbn : Below wu.heap.size wu wn := by rw [hwn]; exact (Below.refl _ _).alloc (Nat.le_refl _) _
          have hXn : Blk wn wu.heap.size 98 (kvC kv).toArray := by rw [hwn]; exact Blk.new _ _ _
          have Han := Lib.hid (hap.below hbn (Nat.le_refl _))
          have Hrn := Lib.hid (rd4_one hXn)
          have hsn : B3 ≤ wn.heap.size := by have h1 := hbn.size; have h2 := hOu.size; omega
          have c1 : wu.cell? ⟨X3, 1, none⟩ = some (.slice S sn sc) := (hx.cell 1).trans rfl
          have Hxn := Lib.hid (hx.below hbn hx.lt)
          have Htn := Lib.hid (htb.below hbn)
          have Hkn := Lib.hid (hks.below hbn)
          have Hon := Lib.hid (show ∀ g, (Value.slice S sn sc).ownBlock = some g → ∃ cur, Blk wn g 98 cur from fun g e => by obtain ⟨cur, hc⟩ := how g e; exact ⟨cur, hc.below hbn hc.lt⟩)
          have H2n := Lib.hid (hr2.below hbn hr2.lt)
          have HRn := Lib.hid (hRu.below hbn)
          have HOn := Lib.hid (hOu.trans (Only.of_below hbn))
          have Hkv := Lib.hid (show KvOk wn kv ⟨(key : Int), sg⟩ from by rw [hkv]; exact ⟨rfl, rfl, hnc, hmd, hCu.below hbn, hDu.below hbn⟩)
          have Hrow9 := Lib.hid (Blk.range (cs := sgV sg.i C nn cc D mm dd) HX9.out)
          have Hrow6 := Lib.hid (Blk.range (cs := kvC kv) hXu)
          have HWn := Lib.hid hwn
          have HWu := Lib.hid hwu
          clear hx htb hap hks how hr2 hwn hbn hXn hOu hRu hCu hDu hne6 hku hXu hwu hkv HI HX6 HX9 HC HD HOk HRk
          go_upto_region 16 with (first | (refine wpList_load_mid rfl 95 (.tmp 9) rfl X9 0 rfl (sgV sg.i C nn cc D mm dd) d37 Hrow9.out hd37 hrow37 (by kernel_rfl) ?_) | (refine wpList_store_mid rfl 95 (.tmp 62) (.tmp 61) rfl X6 1 (sgV sg.i C nn cc D mm dd).toArray rfl rfl Hth.out (size37 _ rfl) (sg_one _ _ _ _ _ _ _) ?_; rw [show (sgV sg.i C nn cc D mm dd).toArray.toList = sgV sg.i C nn cc D mm dd from rfl, ← HWu.out]))
          go_wp2_with (first | (refine wpList_load_mid rfl 98 (.tmp 6) rfl X6 0 rfl (kvC kv) d98 Hrow6.out hd98 hrow98 (by rw [kvC_len]; kernel_rfl) ?_) | (refine wpList_build1s rfl 35 98 (.tmp 65) rfl (kvC kv).toArray i98 _ 4 Try.underlying35 hi98 hz98 hs98 (by omega) (by decide) rfl rfl ?_; rw [← HWn.out]) | (at_builtin; refine wpList_appz rfl (.tmp 64) (.tmp 66) 35 rfl 98 i98 _ 4 64 Try.underlying35 hi98 hz98 hs98 hy98 rfl (by omega) B3 hsn (.slice S sn sc) sn (ks.flatMap kvC) rfl Han.out (some ⟨wu.heap.size, 0, none⟩) 1 1 (kvC kv) rfl Hrn.out (kv_one _) (by unfold maxLen; omega) (by omega) ?_; intro v' wz haz hgz; obtain ⟨S', sc', rfl, hsc', _⟩ := haz.rd; have hneX : some X3 ≠ (Value.slice S sn sc).ownBlock := fun e => by { have := (Han.out.lt X3 e.symm).1; omega }; have hxz := Hxn.out.kept hgz hneX; have zz := hxz.frozen 1; have cz : wz.cell? ⟨X3, 1, none⟩ = some (.slice S sn sc) := (hxz.cell 1).trans rfl; have Hxz := Lib.hid hxz; have Haz := Lib.hid haz; have Hgz := Lib.hid hgz; clear hxz haz hgz))
          obtain ⟨we, hwe⟩ : ∃ q, q = wz.setCell ⟨X3, 1, none⟩ (.slice S' (sn + 1) sc') := ⟨_, rfl⟩
          have HE := Lib.hid (sg_next hwe Han.out Hgz.out Haz.out Hxz.out hbc hsc' Htn.out Hkn.out Hon.out H2n.out hX3B hr2b hR3 Hkv.out)
          have HEr : RdR we rb st' := by
            rw [hwe]
            refine (HRn.out.keptIn (S := fun q => q < B3) (KeptIn.grown (KeptIn.refl _ wn) Hgz.out (fun q hq => by omega) (fun q e hq => by have := (Han.out.lt q e).1; omega)) fun q hq => by omega).keptIn ((KeptIn.refl (fun q => q ≠ X3) wz).setAt (fun h => h rfl) _) fun q hq => by omega
          have HEo : Only rb w we := by
            rw [hwe]
            refine KeptIn.trans (KeptIn.trans (HOr.out.trans HOn.out) (KeptIn.grown (KeptIn.refl _ wn) Hgz.out (fun q hq => by have := hq.2; omega) (fun q e hq => by have := hq.2; have := (Han.out.lt q e).1; omega))) ((KeptIn.refl (fun q => q ≠ rb ∧ q < w.heap.size) wz).setAt (fun h => absurd (show X3 < w.heap.size from h.2) (by omega)) _)
          have HEr := Lib.hid HEr
          have HEo := Lib.hid HEo
          have HWE := Lib.hid hwe
          have hBe : B3 ≤ we.heap.size := by rw [hwe, World.size_setCell]; have := Hgz.out.size; omega
          clear hwe Hxz Haz Hgz Han Hrn Hxn Htn Hkn Hon H2n HRn HOn Hkv
          rw [← HWE.out]
          exact ⟨⟨i + 1, S', sn + 1, sc', ks ++ [kv], by push_cast; rfl, by omega, by rw [Hsni.out], by rw [Hstep.out]; exact HE.out, by rw [Hstep.out]; exact HEr.out, HEo.out, hBe⟩, by simp only [intOf]; omega⟩
/-! ### Package net: the reference's Parse. -/

theorem built88 (A : Option Addr) (L c : Nat) : Try.prog.built 88 [(0, .slice A L c)] = some #[.slice A L c, .bool false] := by kernel_rfl
def pv3 (k u n : Int) : Pv := ⟨k, u, n, none, 0, 0, none, 0, 0, none, 0, 0, none, 0, 0⟩
theorem built39k3 (k u n : Int) : Try.prog.built 39 [(0, .int .i64 k), (1, .int .i64 u), (2, .int .i64 n)] = some (pvC (pv3 k u n)).toArray := by kernel_rfl
def pvM (k u n : Int) (B : Option Addr) (bn bc : Nat) (S : Option Addr) (sn sc : Nat) : Pv := ⟨k, u, n, none, 0, 0, none, 0, 0, B, bn, bc, S, sn, sc⟩
theorem blk_setSD {w : World} {g : Nat} {k u n : Int} (h : Blk w g 39 (pvC (pv3 k u n)).toArray) (B : Option Addr) (bn bc : Nat) (S : Option Addr) (sn sc : Nat) : Blk (w.setCells g 5 (sdC B bn bc S sn sc)) g 39 (pvC (pvM k u n B bn bc S sn sc)).toArray := by
  have h1 := heap_setCell_same w g 5 _ 39 (.slice B bn bc) h
  have h2 := heap_setCell_same _ g 6 _ 39 (.slice S sn sc) h1
  exact h2
theorem kept_setSD (w : World) (g : Nat) (B : Option Addr) (bn bc : Nat) (S : Option Addr) (sn sc : Nat) : KeptIn (fun q => q ≠ g) w (w.setCells g 5 (sdC B bn bc S sn sc)) :=
  ((KeptIn.refl _ _).setAt (p := ⟨g, 5, none⟩) (fun h => h rfl) _).setAt (p := ⟨g, 6, none⟩) (fun h => h rfl) _
theorem there_setSD {w : World} {g : Nat} {k u n : Int} (h : Blk w g 39 (pvC (pv3 k u n)).toArray) : w.there g 5 2 := by
  intro j hj
  refine ⟨?_, h.frozen _⟩
  rw [h.cell]
  rcases (show j = 0 ∨ j = 1 by omega) with rfl | rfl <;> rfl
set_option maxRecDepth 100000 in
set_option maxHeartbeats 4000000 in
theorem RNParseF_any (A : Option Addr) (L c : Nat) (bs : List UInt8) (w : World) (hr : Rd w 1 A L (bs.map byteV)) (hlc : L ≤ c) :
    Calls Try.prog 24 #[.slice A L c] w fun e w' => (∃ v : Pv, e = .returned (.tuple #[.agg (pvC v).toArray, .int .i64 (refP bs).2]) ∧ PvOk w' v (refP bs).1) ∧ Below w.heap.size w w' := by
  obtain ⟨i39, hi39, hz39, hs39, hy39⟩ := info_parts info39
  obtain ⟨d39, hd39, hrow39⟩ := und39
  have hl := hr.len1
  obtain ⟨k, hk⟩ : ∃ q, q = (oneR ⟨bs, false⟩).1 := ⟨_, rfl⟩
  obtain ⟨s1, hs1⟩ : ∃ q, q = (oneR ⟨bs, false⟩).2 := ⟨_, rfl⟩
  obtain ⟨u, hu⟩ : ∃ q, q = (oneR s1).1 := ⟨_, rfl⟩
  obtain ⟨s2, hs2⟩ : ∃ q, q = (oneR s1).2 := ⟨_, rfl⟩
  obtain ⟨n, hn⟩ : ∃ q, q = (oneR s2).1 := ⟨_, rfl⟩
  obtain ⟨s3, hs3⟩ : ∃ q, q = (oneR s2).2 := ⟨_, rfl⟩
  have Hrawd := Lib.hid (show rawR bs = if k = 2 then (⟨2, (u : Int), (n : Int), [], [], (signedR s3).1.1, (signedR s3).1.2⟩, (signedR s3).2)
      else if k = 4 then (⟨4, (u : Int), (n : Int), (chunkRR s3).1.1, (chunkRR s3).1.2, [], []⟩, (chunkRR s3).2)
      else (⟨(k : Int), (u : Int), (n : Int), [], [], [], []⟩, s3) by rw [hs3, hn, hs2, hu, hs1, hk]; rfl)
  have Hk1 := Lib.hid hk
  have Hs1 := Lib.hid hs1
  have Hu := Lib.hid hu
  have Hs2 := Lib.hid hs2
  have Hn := Lib.hid hn
  have Hs3 := Lib.hid hs3
  obtain ⟨R2, hR2⟩ : ∃ q, q = w.heap.size := ⟨_, rfl⟩
  obtain ⟨w1, hw1⟩ : ∃ q, q = w.alloc (.cells (pvC pv0).toArray 39) := ⟨_, rfl⟩
  have hb1 : Below w.heap.size w w1 := by rw [hw1]; exact (Below.refl _ _).alloc (Nat.le_refl _) _
  have hB1 : Blk w1 R2 39 (pvC pv0).toArray := by rw [hw1, hR2]; exact Blk.new _ _ _
  obtain ⟨rb, hrb⟩ : ∃ q, q = w1.heap.size := ⟨_, rfl⟩
  obtain ⟨w2, hw2⟩ : ∃ q, q = w1.alloc (.cells #[.slice A L c, .bool false] 88) := ⟨_, rfl⟩
  have hb2 : Below w1.heap.size w1 w2 := by rw [hw2]; exact (Below.refl _ _).alloc (Nat.le_refl _) _
  have hwR : w.heap.size ≤ R2 := by omega
  have hRrb : R2 < rb := by rw [hrb]; exact hB1.lt
  have HR2 := Lib.hid (hB1.below hb2 hB1.lt)
  have HB := Lib.hid (hb1.trans (hb2.mono hb1.size))
  have HRd := Lib.hid (show RdR w2 rb ⟨bs, false⟩ from ⟨A, c, by rw [hl, hw2, hrb]; exact Blk.new _ _ _, by rw [hl]; exact hlc, by rw [hl]; exact hr.below HB.out, fun h0 b off e => by have h0' : 0 < bs.length := h0; have := hr.lt (by omega) (by omega) e; omega⟩)
  have HW1 := Lib.hid hw1
  have HW2 := Lib.hid hw2
  have HR2e := Lib.hid hR2
  have Hrbe := Lib.hid hrb
  clear hk hs1 hu hs2 hn hs3 hw1 hw2 hb1 hb2 hB1 hR2 hrb hr hl
  go_enter Try.func24, Try.ntmps24
  go_upto_region 1 with (refine wpList_alloc0 rfl 39 rfl (pvC pv0).toArray _ i39 hi39 hz39 rfl ?_; simp only [Act.put, List.setIfInBounds_toArray, List.set_cons_succ, List.set_cons_zero])
  rw [← HW1.out, ← HR2e.out]
  go_upto_region 2 with (refine wpList_buildN rfl 88 _ rfl [(0, .slice A L c)] rfl _ (built88 A L c) ?_)
  rw [← HW2.out, ← Hrbe.out]
  clear HW1 HR2e HW2 Hrbe
  have ht := oneR_any rb ⟨bs, false⟩ w2 HRd.out
  go_upto_region 3 with fail
  refine ht.mono ?_
  rintro e wa ⟨rfl, hSa, hoa⟩
  rw [← Hk1.out]
  rw [← Hs1.out] at hSa
  clear ht
  have ht := oneR_any rb s1 wa hSa
  go_upto_region 3 with fail
  refine ht.mono ?_
  rintro e wb ⟨rfl, hSb, hob⟩
  rw [← Hu.out]
  rw [← Hs2.out] at hSb
  clear ht hSa
  have ht := oneR_any rb s2 wb hSb
  go_upto_region 3 with fail
  refine ht.mono ?_
  rintro e wc ⟨rfl, hSc, hoc⟩
  rw [← Hn.out]
  rw [← Hs3.out] at hSc
  have hoo : Only rb w2 wc := (hoa.trans hob).trans hoc
  obtain ⟨X5, hX5⟩ : ∃ q, q = wc.heap.size := ⟨_, rfl⟩
  obtain ⟨w3, hw3⟩ : ∃ q, q = wc.alloc (.cells (pvC (pv3 (k : Int) (u : Int) (n : Int))).toArray 39) := ⟨_, rfl⟩
  have hb3 : Below wc.heap.size wc w3 := by rw [hw3]; exact (Below.refl _ _).alloc (Nat.le_refl _) _
  have HX5 := Lib.hid (show Blk w3 X5 39 (pvC (pv3 (k : Int) (u : Int) (n : Int))).toArray by rw [hw3, hX5]; exact Blk.new _ _ _)
  have hrX : rb < X5 := by rw [hX5]; exact hSc.lt
  have hwrb : w.heap.size ≤ rb := by omega
  replace HB := Lib.hid ((HB.out.trans (hoo.below hwrb HB.out.size)).trans (hb3.mono (Nat.le_trans HB.out.size hoo.size)))
  replace HR2 := Lib.hid ((hoo.blk HR2.out (by omega)).below hb3 (Nat.lt_of_lt_of_le HR2.out.lt hoo.size))
  replace HRd := Lib.hid (hSc.below hb3)
  have HW3 := Lib.hid hw3
  have HX5e := Lib.hid hX5
  clear ht hSb hSc hoa hob hoc hoo hX5 hw3 hb3 Hk1 Hs1 Hu Hs2 Hn Hs3
  go_upto_region 3 with (first | (refine wpList_buildN rfl 39 _ rfl [(0, .int .i64 (k : Int)), (1, .int .i64 (u : Int)), (2, .int .i64 (n : Int))] rfl _ (built39k3 _ _ _) ?_) | (refine wpList_alloc0 rfl 39 rfl (pvC pv0).toArray _ i39 hi39 hz39 rfl ?_; simp only [Act.put, List.setIfInBounds_toArray, List.set_cons_succ, List.set_cons_zero]) | (refine wpList_store_row rfl 39 (.tmp 5) (.tmp 15) rfl wc.heap.size (pvC (pv3 (k : Int) (u : Int) (n : Int))).toArray rfl rfl 39 _ (Blk.new wc _ _) (size39 _ rfl) rfl (pv_row_one _) ?_; rw [alloc_setRow]))
  rw [← HW3.out, ← HX5e.out]
  clear HW3 HX5e
  have x0 : w3.cell? ⟨X5, 0, none⟩ = some (.int .i64 (k : Int)) := (HX5.out.cell 0).trans rfl
  by_cases k2 : k = 2
  · have g1 : ((k : Int) == 2) = true := by rw [beq_iff_eq]; omega
    have g1' : decide ((k : Int) = 2) = true := decide_eq_true (by omega)
    have Hraw0 := Lib.hid (show rawR bs = (⟨2, (u : Int), (n : Int), [], [], (signedR s3).1.1, (signedR s3).1.2⟩, (signedR s3).2) by rw [Hrawd.out, if_pos k2])
    have Hk2 := Lib.hid k2
    subst k2
    go_upto_region 4 with fail
    have ht := signedR_any rb s3 w3 HRd.out
    go_upto_region 5 with fail
    refine ht.mono ?_
    rintro e w4 ⟨⟨B, bc, S, sn, sc, rfl, hbc, hsc, htb, hsg⟩, hS4, ho4⟩
    obtain ⟨st, hst⟩ : ∃ q, q = (signedR s3).2 := ⟨_, rfl⟩
    obtain ⟨body, hbody⟩ : ∃ q, q = (signedR s3).1.1 := ⟨_, rfl⟩
    obtain ⟨sigs, hsigs⟩ : ∃ q, q = (signedR s3).1.2 := ⟨_, rfl⟩
    obtain ⟨bn, hbn⟩ : ∃ q, q = body.length := ⟨_, rfl⟩
    rw [← hst] at hS4
    rw [← hbody, ← hbn] at htb hbc
    rw [← hsigs] at hsg
    rw [← hbody, ← hbn]
    obtain ⟨p, hp⟩ : ∃ q : Pk, q = ⟨2, (u : Int), (n : Int), [], [], body, sigs⟩ := ⟨_, rfl⟩
    have Hraw := Lib.hid (show rawR bs = (p, st) by rw [Hraw0.out, hp, hst, hbody, hsigs])
    obtain ⟨v, hv⟩ : ∃ q, q = pvM 2 (u : Int) (n : Int) B bn bc S sn sc := ⟨_, rfl⟩
    obtain ⟨w5, hw5⟩ : ∃ q, q = w4.setCells X5 5 (sdC B bn bc S sn sc) := ⟨_, rfl⟩
    have hX4 := ho4.blk HX5.out (by omega)
    have hR4 := ho4.blk HR2.out (by omega)
    have hk5 : KeptIn (fun q => q ≠ X5) w4 w5 := by rw [hw5]; exact kept_setSD _ _ _ _ _ _ _ _
    have hne : ∀ t, t ≠ 39 → ∀ b cur, Blk w4 b t cur → b ≠ X5 := fun t h b cur hb => hb.ne hX4 h
    have Hth := Lib.hid (there_setSD hX4)
    replace HX5 := Lib.hid (show Blk w5 X5 39 (pvC v).toArray by rw [hw5, hv]; exact blk_setSD hX4 _ _ _ _ _ _)
    replace HR2 := Lib.hid (hR4.keptIn hk5 (show R2 ≠ X5 by omega))
    have HV := Lib.hid (show PvOk w5 v p by rw [hv, hp]; exact ⟨⟨rfl, rfl, rfl⟩, ⟨Nat.le_refl _, Nat.le_refl _, hbc, hsc⟩, trd_none _ _ _, trd_none _ _ _, htb.keptIn hk5 (hne _ (by decide)), hsg.keptIn hk5 (hne _ (by decide)) (hne _ (by decide))⟩)
    replace HRd := Lib.hid (hS4.keptIn hk5 fun q hq => by omega)
    replace HB := Lib.hid ((HB.out.trans (ho4.below hwrb HB.out.size)).trans (KeptIn.below hk5 fun q hq => by omega))
    have HW5 := Lib.hid hw5
    have x5 : w5.cell? ⟨X5, 0, none⟩ = some (.int .i64 2) := by rw [HX5.out.cell, hv]; rfl
    clear ht htb hsg hS4 ho4 hst hbody hsigs hp hv hX4 hR4 hk5 hne hw5 x0 hbn hbc hsc Hraw0 g1 g1'
    go_upto_region 5 with (refine wpList_store_mid rfl 37 (.tmp 21) (.tmp 20) rfl X5 5 (sdC B bn bc S sn sc).toArray rfl rfl Hth.out (sizeSD _ rfl) (sd_one _ _ _ _ _ _) ?_; rw [show (sdC B bn bc S sn sc).toArray.toList = sdC B bn bc S sn sc from rfl, ← HW5.out])
    clear Hth HW5
    go_upto_region 8 with fail
    clear x5
    obtain ⟨sb, bad⟩ := st
    obtain ⟨A', c', hblk, _⟩ := HRd.out
    dsimp only at hblk
    have c0 : w5.cell? ⟨rb, 0, none⟩ = some (.slice A' sb.length c') := (hblk.cell 0).trans rfl
    have c1 : w5.cell? ⟨rb, 1, none⟩ = some (.bool bad) := (hblk.cell 1).trans rfl
    clear hblk
    cases bad with
    | true =>
      have Hms := Lib.hid (made_store (v := pv0) HB.out hwR HR2.out (pvOk0 w5))
      have Href := Lib.hid (show refP bs = (pk0, 310) by unfold refP; rw [Hraw.out]; exact if_pos (.inl rfl))
      have HR2s := HR2
      go_wp2_with (first | (refine wpList_buildN rfl 39 _ rfl [] rfl _ built39z ?_) | (refine wpList_store_row rfl 39 (.tmp 2) (.tmp 50) rfl R2 (pvC pv0).toArray rfl rfl 39 _ HR2s.out (size39 _ rfl) rfl (pv_row_one _) ?_))
      refine bodyPost_ret (results_row_tmp (p := 2) (u := 3) rfl _ _ R2 _ _ (0, 0) d39 rfl Hms.out.1 hd39 hrow39 (size39 _ rfl)) rfl ?_
      rw [Href.out]
      exact ⟨⟨pv0, rfl, Hms.out.2.1⟩, Hms.out.2.2⟩
    | false =>
      by_cases hsb : 0 < sb.length
      · have e0 : decide ((sb.length : Int) > 0) = true := decide_eq_true (by omega)
        have e1 : (0 : Int) < (sb.length : Int) := by omega
        have e2 : decide (0 < sb.length) = true := decide_eq_true hsb
        have e3 : ¬ sb = [] := fun h => by rw [h] at hsb; exact absurd hsb (by simp)
        have E3 := Lib.hid e3
        have Hms := Lib.hid (made_store (v := pv0) HB.out hwR HR2.out (pvOk0 w5))
        have Href := Lib.hid (show refP bs = (pk0, 310) by unfold refP; rw [Hraw.out]; exact if_pos (.inr (.inl E3.out)))
        have HR2s := HR2
        go_wp2_with (first | (refine wpList_buildN rfl 39 _ rfl [] rfl _ built39z ?_) | (refine wpList_store_row rfl 39 (.tmp 2) (.tmp 50) rfl R2 (pvC pv0).toArray rfl rfl 39 _ HR2s.out (size39 _ rfl) rfl (pv_row_one _) ?_))
        refine bodyPost_ret (results_row_tmp (p := 2) (u := 3) rfl _ _ R2 _ _ (0, 0) d39 rfl Hms.out.1 hd39 hrow39 (size39 _ rfl)) rfl ?_
        rw [Href.out]
        exact ⟨⟨pv0, rfl, Hms.out.2.1⟩, Hms.out.2.2⟩
      · have e0 : decide ((sb.length : Int) > 0) = false := decide_eq_false (by omega)
        have e1 : ¬ (0 : Int) < (sb.length : Int) := by omega
        have e2 : decide (0 < sb.length) = false := decide_eq_false hsb
        have Hnil := Lib.hid (List.eq_nil_of_length_eq_zero (show sb.length = 0 by omega))
        have Hk := Lib.hid (Blk.range HX5.out)
        clear hsb
        go_wp2_with (refine wpList_load_mid_g (by first | rfl | simp [Region.wanted, yielded]) 39 (.tmp 5) rfl X5 0 rfl (pvC v) d39 Hk.out hd39 hrow39 (by rw [pvC_len]; kernel_rfl) ?_)
        refine (Valid_any v p w5 HV.out).mono ?_
        rintro e wv ⟨rfl, hbv⟩
        obtain ⟨b, hb⟩ : ∃ b, b = validP p := ⟨_, rfl⟩
        rw [← hb]
        have Hb := Lib.hid hb
        replace HB := Lib.hid (HB.out.trans (hbv.mono HB.out.size))
        replace HX5 := Lib.hid (HX5.out.below hbv HX5.out.lt)
        replace HR2 := Lib.hid (HR2.out.below hbv HR2.out.lt)
        replace HV := Lib.hid (HV.out.below hbv)
        replace Hk := Lib.hid (Blk.range HX5.out)
        clear hb hbv c0 c1 HRd
        cases b with
        | false =>
          have Hms := Lib.hid (made_store (v := pv0) HB.out hwR HR2.out (pvOk0 wv))
          have Href := Lib.hid (show refP bs = (pk0, 310) by unfold refP; rw [Hraw.out]; exact if_pos (.inr (.inr Hb.out.symm)))
          have HR2s := HR2
          go_wp2_with (first | (refine wpList_buildN rfl 39 _ rfl [] rfl _ built39z ?_) | (refine wpList_store_row rfl 39 (.tmp 2) (.tmp 50) rfl R2 (pvC pv0).toArray rfl rfl 39 _ HR2s.out (size39 _ rfl) rfl (pv_row_one _) ?_))
          refine bodyPost_ret (results_row_tmp (p := 2) (u := 3) rfl _ _ R2 _ _ (0, 0) d39 rfl Hms.out.1 hd39 hrow39 (size39 _ rfl)) rfl ?_
          rw [Href.out]
          exact ⟨⟨pv0, rfl, Hms.out.2.1⟩, Hms.out.2.2⟩
        | true =>
          have Hms := Lib.hid (made_store (v := v) HB.out hwR HR2.out HV.out)
          have Href := Lib.hid (show refP bs = (p, 0) by unfold refP; rw [Hraw.out]; exact if_neg (by rw [Hnil.out, ← Hb.out]; simp))
          have HR2s := HR2
          go_wp2_with (first | (refine wpList_load_mid rfl 39 (.tmp 5) rfl X5 0 rfl (pvC v) d39 Hk.out hd39 hrow39 (by rw [pvC_len]; kernel_rfl) ?_) | (refine wpList_store_row rfl 39 (.tmp 2) (.tmp 51) rfl R2 (pvC v).toArray rfl rfl 39 _ HR2s.out (size39 _ rfl) rfl (pv_row_one _) ?_))
          refine bodyPost_ret (results_row_tmp (p := 2) (u := 3) rfl _ _ R2 _ _ (0, 0) d39 rfl Hms.out.1 hd39 hrow39 (size39 _ rfl)) rfl ?_
          rw [Href.out]
          exact ⟨⟨v, rfl, Hms.out.2.1⟩, Hms.out.2.2⟩
  have f1 : ((k : Int) == 2) = false := by rw [beq_eq_false_iff_ne]; omega
  have f1' : decide ((k : Int) = 2) = false := decide_eq_false (by omega)
  have f1n : ¬ (k : Int) = 2 := by omega
  by_cases k4 : k = 4
  rotate_left
  · have g1 : ((k : Int) == 4) = false := by rw [beq_eq_false_iff_ne]; omega
    have g1' : decide ((k : Int) = 4) = false := decide_eq_false (by omega)
    have g1n : ¬ (k : Int) = 4 := by omega
    obtain ⟨p, hp⟩ : ∃ q : Pk, q = ⟨(k : Int), (u : Int), (n : Int), [], [], [], []⟩ := ⟨_, rfl⟩
    obtain ⟨st, hst⟩ : ∃ q, q = s3 := ⟨_, rfl⟩
    have Hraw := Lib.hid (show rawR bs = (p, st) by rw [Hrawd.out, if_neg k2, if_neg k4, hp, hst])
    obtain ⟨v, hv⟩ : ∃ q, q = pv3 (k : Int) (u : Int) (n : Int) := ⟨_, rfl⟩
    have HV := Lib.hid (show PvOk w3 v p by rw [hv, hp]; exact ⟨⟨rfl, rfl, rfl⟩, ⟨Nat.le_refl _, Nat.le_refl _, Nat.le_refl _, Nat.le_refl _⟩, trd_none _ _ _, trd_none _ _ _, trd_none _ _ _, SgsAt.nil _⟩)
    rw [← hv] at HX5
    rw [← hst] at HRd
    clear hp hst k2 k4
    go_upto_region 8 with fail
    clear x0 f1 f1' f1n g1 g1' g1n hv
    obtain ⟨sb, bad⟩ := st
    obtain ⟨A', c', hblk, _⟩ := HRd.out
    dsimp only at hblk
    have c0 : w3.cell? ⟨rb, 0, none⟩ = some (.slice A' sb.length c') := (hblk.cell 0).trans rfl
    have c1 : w3.cell? ⟨rb, 1, none⟩ = some (.bool bad) := (hblk.cell 1).trans rfl
    clear hblk
    cases bad with
    | true =>
      have Hms := Lib.hid (made_store (v := pv0) HB.out hwR HR2.out (pvOk0 w3))
      have Href := Lib.hid (show refP bs = (pk0, 310) by unfold refP; rw [Hraw.out]; exact if_pos (.inl rfl))
      have HR2s := HR2
      go_wp2_with (first | (refine wpList_buildN rfl 39 _ rfl [] rfl _ built39z ?_) | (refine wpList_store_row rfl 39 (.tmp 2) (.tmp 50) rfl R2 (pvC pv0).toArray rfl rfl 39 _ HR2s.out (size39 _ rfl) rfl (pv_row_one _) ?_))
      refine bodyPost_ret (results_row_tmp (p := 2) (u := 3) rfl _ _ R2 _ _ (0, 0) d39 rfl Hms.out.1 hd39 hrow39 (size39 _ rfl)) rfl ?_
      rw [Href.out]
      exact ⟨⟨pv0, rfl, Hms.out.2.1⟩, Hms.out.2.2⟩
    | false =>
      by_cases hsb : 0 < sb.length
      · have e0 : decide ((sb.length : Int) > 0) = true := decide_eq_true (by omega)
        have e1 : (0 : Int) < (sb.length : Int) := by omega
        have e2 : decide (0 < sb.length) = true := decide_eq_true hsb
        have e3 : ¬ sb = [] := fun h => by rw [h] at hsb; exact absurd hsb (by simp)
        have E3 := Lib.hid e3
        have Hms := Lib.hid (made_store (v := pv0) HB.out hwR HR2.out (pvOk0 w3))
        have Href := Lib.hid (show refP bs = (pk0, 310) by unfold refP; rw [Hraw.out]; exact if_pos (.inr (.inl E3.out)))
        have HR2s := HR2
        go_wp2_with (first | (refine wpList_buildN rfl 39 _ rfl [] rfl _ built39z ?_) | (refine wpList_store_row rfl 39 (.tmp 2) (.tmp 50) rfl R2 (pvC pv0).toArray rfl rfl 39 _ HR2s.out (size39 _ rfl) rfl (pv_row_one _) ?_))
        refine bodyPost_ret (results_row_tmp (p := 2) (u := 3) rfl _ _ R2 _ _ (0, 0) d39 rfl Hms.out.1 hd39 hrow39 (size39 _ rfl)) rfl ?_
        rw [Href.out]
        exact ⟨⟨pv0, rfl, Hms.out.2.1⟩, Hms.out.2.2⟩
      · have e0 : decide ((sb.length : Int) > 0) = false := decide_eq_false (by omega)
        have e1 : ¬ (0 : Int) < (sb.length : Int) := by omega
        have e2 : decide (0 < sb.length) = false := decide_eq_false hsb
        have Hnil := Lib.hid (List.eq_nil_of_length_eq_zero (show sb.length = 0 by omega))
        have Hk := Lib.hid (Blk.range HX5.out)
        clear hsb
        go_wp2_with (refine wpList_load_mid_g (by first | rfl | simp [Region.wanted, yielded]) 39 (.tmp 5) rfl X5 0 rfl (pvC v) d39 Hk.out hd39 hrow39 (by rw [pvC_len]; kernel_rfl) ?_)
        refine (Valid_any v p w3 HV.out).mono ?_
        rintro e wv ⟨rfl, hbv⟩
        obtain ⟨b, hb⟩ : ∃ b, b = validP p := ⟨_, rfl⟩
        rw [← hb]
        have Hb := Lib.hid hb
        replace HB := Lib.hid (HB.out.trans (hbv.mono HB.out.size))
        replace HX5 := Lib.hid (HX5.out.below hbv HX5.out.lt)
        replace HR2 := Lib.hid (HR2.out.below hbv HR2.out.lt)
        replace HV := Lib.hid (HV.out.below hbv)
        replace Hk := Lib.hid (Blk.range HX5.out)
        clear hb hbv c0 c1 HRd
        cases b with
        | false =>
          have Hms := Lib.hid (made_store (v := pv0) HB.out hwR HR2.out (pvOk0 wv))
          have Href := Lib.hid (show refP bs = (pk0, 310) by unfold refP; rw [Hraw.out]; exact if_pos (.inr (.inr Hb.out.symm)))
          have HR2s := HR2
          go_wp2_with (first | (refine wpList_buildN rfl 39 _ rfl [] rfl _ built39z ?_) | (refine wpList_store_row rfl 39 (.tmp 2) (.tmp 50) rfl R2 (pvC pv0).toArray rfl rfl 39 _ HR2s.out (size39 _ rfl) rfl (pv_row_one _) ?_))
          refine bodyPost_ret (results_row_tmp (p := 2) (u := 3) rfl _ _ R2 _ _ (0, 0) d39 rfl Hms.out.1 hd39 hrow39 (size39 _ rfl)) rfl ?_
          rw [Href.out]
          exact ⟨⟨pv0, rfl, Hms.out.2.1⟩, Hms.out.2.2⟩
        | true =>
          have Hms := Lib.hid (made_store (v := v) HB.out hwR HR2.out HV.out)
          have Href := Lib.hid (show refP bs = (p, 0) by unfold refP; rw [Hraw.out]; exact if_neg (by rw [Hnil.out, ← Hb.out]; simp))
          have HR2s := HR2
          go_wp2_with (first | (refine wpList_load_mid rfl 39 (.tmp 5) rfl X5 0 rfl (pvC v) d39 Hk.out hd39 hrow39 (by rw [pvC_len]; kernel_rfl) ?_) | (refine wpList_store_row rfl 39 (.tmp 2) (.tmp 51) rfl R2 (pvC v).toArray rfl rfl 39 _ HR2s.out (size39 _ rfl) rfl (pv_row_one _) ?_))
          refine bodyPost_ret (results_row_tmp (p := 2) (u := 3) rfl _ _ R2 _ _ (0, 0) d39 rfl Hms.out.1 hd39 hrow39 (size39 _ rfl)) rfl ?_
          rw [Href.out]
          exact ⟨⟨v, rfl, Hms.out.2.1⟩, Hms.out.2.2⟩
  · have g1 : ((k : Int) == 4) = true := by rw [beq_iff_eq]; omega
    have g1' : decide ((k : Int) = 4) = true := decide_eq_true (by omega)
    have Hraw0 := Lib.hid (show rawR bs = (⟨4, (u : Int), (n : Int), (chunkRR s3).1.1, (chunkRR s3).1.2, [], []⟩, (chunkRR s3).2) by rw [Hrawd.out, if_neg k2, if_pos k4])
    clear k2
    subst k4
    go_upto_region 6 with fail
    have ht := textR_any rb s3 w3 HRd.out
    go_upto_region 7 with fail
    refine ht.mono ?_
    rintro e w4 ⟨⟨D, dc, rfl, hdc, hd4⟩, hS4, ho4⟩
    obtain ⟨data, hdata⟩ : ∃ q, q = (textR s3).1 := ⟨_, rfl⟩
    obtain ⟨s4, hs4⟩ : ∃ q, q = (textR s3).2 := ⟨_, rfl⟩
    obtain ⟨dn, hdn⟩ : ∃ q, q = data.length := ⟨_, rfl⟩
    rw [← hs4] at hS4
    rw [← hdata, ← hdn] at hd4 hdc
    rw [← hdata, ← hdn]
    obtain ⟨D', dc', eD, _, htd⟩ := hd4.trd1
    cases eD
    have hX4 := ho4.blk HX5.out (by omega)
    have hR4 := ho4.blk HR2.out (by omega)
    obtain ⟨w5, hw5⟩ : ∃ q, q = w4.setCell ⟨X5, 3, none⟩ (.slice D dn dc) := ⟨_, rfl⟩
    have hk5 : KeptIn (fun q => q ≠ X5) w4 w5 := by rw [hw5]; exact (KeptIn.refl _ _).setAt (p := ⟨X5, 3, none⟩) (fun h => h rfl) _
    have hne : ∀ t, t ≠ 39 → ∀ b cur, Blk w4 b t cur → b ≠ X5 := fun t h b cur hb => hb.ne hX4 h
    have y3 : w4.cell? ⟨X5, 3, none⟩ = some (.slice none 0 0) := (hX4.cell 3).trans rfl
    have z3 := hX4.frozen 3
    replace HX5 := Lib.hid (show Blk w5 X5 39 (pvC ⟨4, (u : Int), (n : Int), D, dn, dc, none, 0, 0, none, 0, 0, none, 0, 0⟩).toArray by rw [hw5]; exact heap_setCell_same w4 X5 3 _ 39 _ hX4)
    replace HR2 := Lib.hid (hR4.keptIn hk5 (show R2 ≠ X5 by omega))
    have HT5 := Lib.hid (htd.keptIn hk5 (hne _ (by decide)))
    replace HRd := Lib.hid (hS4.keptIn hk5 fun q hq => by omega)
    replace HB := Lib.hid ((HB.out.trans (ho4.below hwrb HB.out.size)).trans (KeptIn.below hk5 fun q hq => by omega))
    have HW5 := Lib.hid hw5
    have Hda := Lib.hid hdata
    have Hs4 := Lib.hid hs4
    clear ht hd4 hS4 ho4 htd hX4 hR4 hk5 hne hw5 hdata hs4 hdn x0
    go_upto_region 7 with fail
    rw [← HW5.out]
    clear HW5 y3 z3 g1 g1' f1 f1' f1n
    have ht := oneR_any rb s4 w5 HRd.out
    go_upto_region 8 with fail
    refine ht.mono ?_
    rintro e w6 ⟨rfl, hS6, ho6⟩
    obtain ⟨m, hm⟩ : ∃ q, q = (oneR s4).1 := ⟨_, rfl⟩
    obtain ⟨s5, hs5⟩ : ∃ q, q = (oneR s4).2 := ⟨_, rfl⟩
    rw [← hm]
    rw [← hs5] at hS6
    have hm256 : m ≤ 255 := by rw [hm]; have := UInt8.toNat_lt ((takR 1 s4).1.getD 0 0); unfold oneR; dsimp only; omega
    have hx6 := ho6.blk HX5.out (by omega)
    have hR6 := ho6.blk HR2.out (by omega)
    have hrd5 : ∃ cs, Blk w5 rb 88 cs := by obtain ⟨_, _, h, _⟩ := HRd.out; exact ⟨_, h⟩
    have ht6 : TRd w6 5 1 D dn (data.map byteV) := HT5.out.keptIn ho6 fun b cur hb => ⟨by obtain ⟨cs, h⟩ := hrd5; exact hb.ne h (by decide), hb.lt⟩
    have HB6 := Lib.hid (HB.out.trans (ho6.below hwrb HB.out.size))
    have Hm := Lib.hid hm
    have Hs5 := Lib.hid hs5
    clear ht hm hs5
    have ht := sumsR_any rb m s5 w6 hS6 hm256
    go_upto_region 8 with fail
    refine ht.mono ?_
    rintro e w7 ⟨⟨P, pc, rfl, hpc, hp7⟩, hS7, ho7⟩
    obtain ⟨proof, hproof⟩ : ∃ q, q = (sumsR m s5).1 := ⟨_, rfl⟩
    obtain ⟨st, hst⟩ : ∃ q, q = (sumsR m s5).2 := ⟨_, rfl⟩
    rw [← hst] at hS7
    rw [← hproof] at hp7
    obtain ⟨P', pc', eP, _, hrp⟩ := hp7.rd
    cases eP
    have htp : TRd w7 93 32 P m (proof.flatMap sumC) := hp7.trd
    have hrd6 : ∃ cs, Blk w6 rb 88 cs := by obtain ⟨_, _, h, _⟩ := hS6; exact ⟨_, h⟩
    have ht7 : TRd w7 5 1 D dn (data.map byteV) := ht6.keptIn ho7 fun b cur hb => ⟨by obtain ⟨cs, h⟩ := hrd6; exact hb.ne h (by decide), hb.lt⟩
    have hX7 := ho7.blk hx6 (by omega)
    have hR7 := ho7.blk hR6 (by omega)
    obtain ⟨p, hp⟩ : ∃ q : Pk, q = ⟨4, (u : Int), (n : Int), data, proof, [], []⟩ := ⟨_, rfl⟩
    have Hraw := Lib.hid (show rawR bs = (p, st) by rw [Hraw0.out, hp, hst, hproof, Hda.out]; unfold chunkRR; dsimp only; rw [Hs5.out, Hm.out, Hs4.out])
    obtain ⟨v, hv⟩ : ∃ q : Pv, q = ⟨4, (u : Int), (n : Int), D, dn, dc, P, m, pc, none, 0, 0, none, 0, 0⟩ := ⟨_, rfl⟩
    obtain ⟨w8, hw8⟩ : ∃ q, q = w7.setCell ⟨X5, 4, none⟩ (.slice P m pc) := ⟨_, rfl⟩
    have hk8 : KeptIn (fun q => q ≠ X5) w7 w8 := by rw [hw8]; exact (KeptIn.refl _ _).setAt (p := ⟨X5, 4, none⟩) (fun h => h rfl) _
    have hne : ∀ t, t ≠ 39 → ∀ b cur, Blk w7 b t cur → b ≠ X5 := fun t h b cur hb => hb.ne hX7 h
    have y4 : w7.cell? ⟨X5, 4, none⟩ = some (.slice none 0 0) := (hX7.cell 4).trans rfl
    have z4 := hX7.frozen 4
    replace HX5 := Lib.hid (show Blk w8 X5 39 (pvC v).toArray by rw [hw8, hv]; exact heap_setCell_same w7 X5 4 _ 39 _ hX7)
    replace HR2 := Lib.hid (hR7.keptIn hk8 (show R2 ≠ X5 by omega))
    have HV := Lib.hid (show PvOk w8 v p by rw [hv, hp]; exact ⟨⟨rfl, rfl, rfl⟩, ⟨hdc, hpc, Nat.le_refl _, Nat.le_refl _⟩, ht7.keptIn hk8 (hne _ (by decide)), htp.keptIn hk8 (hne _ (by decide)), trd_none _ _ _, SgsAt.nil _⟩)
    replace HRd := Lib.hid (hS7.keptIn hk8 fun q hq => by omega)
    replace HB := Lib.hid ((HB6.out.trans (ho7.below hwrb HB6.out.size)).trans (KeptIn.below hk8 fun q hq => by omega))
    have HW8 := Lib.hid hw8
    clear ht hp7 hS7 ho7 hrp htp hrd6 ht7 hX7 hR7 hp hv hw8 hk8 hne hst hproof ht6 hx6 hR6 hS6 ho6 hrd5 HB6 HT5 Hraw0 Hda Hs4 Hs5 Hm
    go_upto_region 8 with fail
    rw [← HW8.out]
    clear HW8 y4 z4
    obtain ⟨sb, bad⟩ := st
    obtain ⟨A', c', hblk, _⟩ := HRd.out
    dsimp only at hblk
    have c0 : w8.cell? ⟨rb, 0, none⟩ = some (.slice A' sb.length c') := (hblk.cell 0).trans rfl
    have c1 : w8.cell? ⟨rb, 1, none⟩ = some (.bool bad) := (hblk.cell 1).trans rfl
    clear hblk
    cases bad with
    | true =>
      have Hms := Lib.hid (made_store (v := pv0) HB.out hwR HR2.out (pvOk0 w8))
      have Href := Lib.hid (show refP bs = (pk0, 310) by unfold refP; rw [Hraw.out]; exact if_pos (.inl rfl))
      have HR2s := HR2
      go_wp2_with (first | (refine wpList_buildN rfl 39 _ rfl [] rfl _ built39z ?_) | (refine wpList_store_row rfl 39 (.tmp 2) (.tmp 50) rfl R2 (pvC pv0).toArray rfl rfl 39 _ HR2s.out (size39 _ rfl) rfl (pv_row_one _) ?_))
      refine bodyPost_ret (results_row_tmp (p := 2) (u := 3) rfl _ _ R2 _ _ (0, 0) d39 rfl Hms.out.1 hd39 hrow39 (size39 _ rfl)) rfl ?_
      rw [Href.out]
      exact ⟨⟨pv0, rfl, Hms.out.2.1⟩, Hms.out.2.2⟩
    | false =>
      by_cases hsb : 0 < sb.length
      · have e0 : decide ((sb.length : Int) > 0) = true := decide_eq_true (by omega)
        have e1 : (0 : Int) < (sb.length : Int) := by omega
        have e2 : decide (0 < sb.length) = true := decide_eq_true hsb
        have e3 : ¬ sb = [] := fun h => by rw [h] at hsb; exact absurd hsb (by simp)
        have E3 := Lib.hid e3
        have Hms := Lib.hid (made_store (v := pv0) HB.out hwR HR2.out (pvOk0 w8))
        have Href := Lib.hid (show refP bs = (pk0, 310) by unfold refP; rw [Hraw.out]; exact if_pos (.inr (.inl E3.out)))
        have HR2s := HR2
        go_wp2_with (first | (refine wpList_buildN rfl 39 _ rfl [] rfl _ built39z ?_) | (refine wpList_store_row rfl 39 (.tmp 2) (.tmp 50) rfl R2 (pvC pv0).toArray rfl rfl 39 _ HR2s.out (size39 _ rfl) rfl (pv_row_one _) ?_))
        refine bodyPost_ret (results_row_tmp (p := 2) (u := 3) rfl _ _ R2 _ _ (0, 0) d39 rfl Hms.out.1 hd39 hrow39 (size39 _ rfl)) rfl ?_
        rw [Href.out]
        exact ⟨⟨pv0, rfl, Hms.out.2.1⟩, Hms.out.2.2⟩
      · have e0 : decide ((sb.length : Int) > 0) = false := decide_eq_false (by omega)
        have e1 : ¬ (0 : Int) < (sb.length : Int) := by omega
        have e2 : decide (0 < sb.length) = false := decide_eq_false hsb
        have Hnil := Lib.hid (List.eq_nil_of_length_eq_zero (show sb.length = 0 by omega))
        have Hk := Lib.hid (Blk.range HX5.out)
        clear hsb
        go_wp2_with (refine wpList_load_mid_g (by first | rfl | simp [Region.wanted, yielded]) 39 (.tmp 5) rfl X5 0 rfl (pvC v) d39 Hk.out hd39 hrow39 (by rw [pvC_len]; kernel_rfl) ?_)
        refine (Valid_any v p w8 HV.out).mono ?_
        rintro e wv ⟨rfl, hbv⟩
        obtain ⟨b, hb⟩ : ∃ b, b = validP p := ⟨_, rfl⟩
        rw [← hb]
        have Hb := Lib.hid hb
        replace HB := Lib.hid (HB.out.trans (hbv.mono HB.out.size))
        replace HX5 := Lib.hid (HX5.out.below hbv HX5.out.lt)
        replace HR2 := Lib.hid (HR2.out.below hbv HR2.out.lt)
        replace HV := Lib.hid (HV.out.below hbv)
        replace Hk := Lib.hid (Blk.range HX5.out)
        clear hb hbv c0 c1 HRd
        cases b with
        | false =>
          have Hms := Lib.hid (made_store (v := pv0) HB.out hwR HR2.out (pvOk0 wv))
          have Href := Lib.hid (show refP bs = (pk0, 310) by unfold refP; rw [Hraw.out]; exact if_pos (.inr (.inr Hb.out.symm)))
          have HR2s := HR2
          go_wp2_with (first | (refine wpList_buildN rfl 39 _ rfl [] rfl _ built39z ?_) | (refine wpList_store_row rfl 39 (.tmp 2) (.tmp 50) rfl R2 (pvC pv0).toArray rfl rfl 39 _ HR2s.out (size39 _ rfl) rfl (pv_row_one _) ?_))
          refine bodyPost_ret (results_row_tmp (p := 2) (u := 3) rfl _ _ R2 _ _ (0, 0) d39 rfl Hms.out.1 hd39 hrow39 (size39 _ rfl)) rfl ?_
          rw [Href.out]
          exact ⟨⟨pv0, rfl, Hms.out.2.1⟩, Hms.out.2.2⟩
        | true =>
          have Hms := Lib.hid (made_store (v := v) HB.out hwR HR2.out HV.out)
          have Href := Lib.hid (show refP bs = (p, 0) by unfold refP; rw [Hraw.out]; exact if_neg (by rw [Hnil.out, ← Hb.out]; simp))
          have HR2s := HR2
          go_wp2_with (first | (refine wpList_load_mid rfl 39 (.tmp 5) rfl X5 0 rfl (pvC v) d39 Hk.out hd39 hrow39 (by rw [pvC_len]; kernel_rfl) ?_) | (refine wpList_store_row rfl 39 (.tmp 2) (.tmp 51) rfl R2 (pvC v).toArray rfl rfl 39 _ HR2s.out (size39 _ rfl) rfl (pv_row_one _) ?_))
          refine bodyPost_ret (results_row_tmp (p := 2) (u := 3) rfl _ _ R2 _ _ (0, 0) d39 rfl Hms.out.1 hd39 hrow39 (size39 _ rfl)) rfl ?_
          rw [Href.out]
          exact ⟨⟨v, rfl, Hms.out.2.1⟩, Hms.out.2.2⟩
theorem RNParse_any (A : Option Addr) (L c : Nat) (bs : List UInt8) (w : World) (hr : Rd w 1 A L (bs.map byteV)) (hlc : L ≤ c) :
    Calls Try.prog 24 #[.slice A L c] w fun e w' => (∃ v : Pv, e = .returned (.tuple #[.agg (pvC v).toArray, .int .i64 (ansP bs).2]) ∧ PvOk w' v (ansP bs).1) ∧ Below w.heap.size w w' := by
  rw [← refP_eq]
  exact RNParseF_any A L c bs w hr hlc
/-! ### Package net: the reference's Forge. -/

theorem PksAt.atR {w : World} {A : Option Addr} {n k : Nat} {ps : List Pk} {x : Pk} (h : PksAt w A n ps) (hx : ps[k]? = some x) : ∃ cb co v, A = some ⟨cb, co, none⟩ ∧ ∀ W, Below w.heap.size w W → W.rangeAt cb (co + k * 7) (pvC v) ∧ PvOk W v x := by
  have hl := h.len
  obtain ⟨vs, ht, hp⟩ := h
  have hk : k < n := by rw [← hl]; exact (List.getElem?_eq_some_iff.1 hx).1
  have hvl := ht.1.lenf pvC_len (by omega)
  obtain ⟨v, hv⟩ : ∃ q, vs[k]? = some q := ⟨_, List.getElem?_eq_getElem (by omega)⟩
  obtain ⟨cb, co, e, -⟩ := ht.1.2.2 (by omega)
  subst e
  exact ⟨cb, co, v, rfl, fun W hW => ⟨rd_row pvC_len (by omega) (ht.below hW).1 hv, (hp.2 k v x hv hx).below hW⟩⟩
theorem OwnP.ptrR {w : World} {base n c : Nat} {A : Option Addr} {ps : List Pk} (h : OwnP w base (.slice A n c) n ps) (hn : 0 < n) : ∃ g o, A = some ⟨g, o, none⟩ := by
  obtain ⟨A', c', e, _, us, ht, _⟩ := h.pks
  cases e
  obtain ⟨g, o, e, _⟩ := ht.1.2.2 hn
  exact ⟨g, o, e⟩
theorem OwnP.setPkR {w : World} {base n c g o i : Nat} {ps : List Pk} {v : Pv} {x : Pk} (h : OwnP w base (.slice (some ⟨g, o, none⟩) n c) n ps) (hi : i < n) (hv : PvOk w v x) :
    w.there g (o + i * 7) 7 ∧ PksAt (w.setCells g (o + i * 7) (pvC v)) (some ⟨g, o, none⟩) n (ps.set i x) ∧ base ≤ g ∧ ∃ cur, Blk w g 39 cur := by
  obtain ⟨⟨us, h1, h2⟩, h3⟩ := h
  obtain ⟨cur, hB⟩ := h3 g rfl
  obtain ⟨A, c', e, _, ht⟩ := h1.trd7
  cases e
  have hs : ∀ t, t ≠ 39 → ∀ b cur, Blk w b t cur → b ≠ g := fun t h b cur hb => hb.ne hB h
  have hk := kept_setCells7 w g (o + i * 7) v
  refine ⟨trd_there ht hi, PksAt.of (trd_set7 (q := v) ht hi) ((h2.set i hv).keptIn hk (hs _ (by decide)) (hs _ (by decide)) (hs _ (by decide))), (h1.lt g rfl).1, cur, hB⟩
theorem forge_badR {P : List Pk} {k a : Nat} {x : Pk} {y : UInt8} {bs : List UInt8} (hx : P[k]? = some x) (ha : a < bs.length) (hb : bs = bytP x) : parP (bs.set a (bs.getD a 0 ^^^ y)) = none → forgeP P (k : Int) (a : Int) y = (P.eraseIdx k, 0) := fun h => by
  have hk := (List.getElem?_eq_some_iff.1 hx).1
  unfold forgeP
  rw [if_pos ⟨by omega, by omega⟩]
  simp only [Int.toNat_natCast]
  rw [show P.getD k pk0 = x by rw [List.getD_eq_getElem?_getD, hx]; rfl, ← hb, if_pos ⟨by omega, by omega⟩, h]
theorem forge_goodR {P : List Pk} {k a : Nat} {x : Pk} {y : UInt8} {bs : List UInt8} (hx : P[k]? = some x) (ha : a < bs.length) (hb : bs = bytP x) : ∀ q, parP (bs.set a (bs.getD a 0 ^^^ y)) = some q → forgeP P (k : Int) (a : Int) y = (P.set k q, 0) := fun q h => by
  have hk := (List.getElem?_eq_some_iff.1 hx).1
  unfold forgeP
  rw [if_pos ⟨by omega, by omega⟩]
  simp only [Int.toNat_natCast]
  rw [show P.getD k pk0 = x by rw [List.getD_eq_getElem?_getD, hx]; rfl, ← hb, if_pos ⟨by omega, by omega⟩, h]
theorem forge_outR {P : List Pk} {k : Nat} {a : Int} {y : UInt8} (hk : k < P.length) (h : ¬ (0 ≤ a ∧ a < ((bytP (P.getD k pk0)).length : Int))) : forgeP P (k : Int) a y = (P, 1) := by
  unfold forgeP
  rw [if_pos ⟨by omega, by omega⟩]
  simp only [Int.toNat_natCast]
  rw [if_neg h]
theorem RNBytesZ_any (v : Pv) (p : Pk) (bs : List UInt8) (w : World) (hv : PvOk w v p) (hp : validP p = true) (h : bytP p = bs) :
    Calls Try.prog 27 #[.agg (pvC v).toArray] w fun e w' => (∃ g o c : Nat, e = .returned (.slice (some ⟨g, o, none⟩) bs.length c) ∧ bs.length ≤ c ∧ AppZ w' w.heap.size 5 1 (.slice (some ⟨g, o, none⟩) bs.length c) bs.length (bs.map byteV)) ∧ Below w.heap.size w w' := by
  refine (RNBytes_any v p w hv hp).mono ?_
  rintro e w' ⟨⟨v', rfl, ha⟩, hb⟩
  obtain ⟨A, c, rfl, hc, hr⟩ := ha.rd
  obtain ⟨g, o, rfl, _⟩ := hr.2.2 (by have := bytP_three p; omega)
  rw [h] at ha hc
  exact ⟨⟨g, o, c, by rw [h], hc, ha⟩, hb⟩
theorem rd_of_az {w : World} {base n c : Nat} {A : Option Addr} {xs : List Value} (h : AppZ w base 5 1 (.slice A n c) n xs) : Rd w 1 A n xs := by
  obtain ⟨A', c', e, _, hr⟩ := h.rd
  cases e
  exact hr
theorem RNParse0_any (A : Option Addr) (L c : Nat) (bs : List UInt8) (p : Pk) (e : Int) (w : World) (hr : Rd w 1 A L (bs.map byteV)) (hlc : L ≤ c) (h : ansP bs = (p, e)) :
    Calls Try.prog 24 #[.slice A L c] w fun r w' => (∃ v : Pv, r = .returned (.tuple #[.agg (pvC v).toArray, .int .i64 e]) ∧ PvOk w' v p) ∧ Below w.heap.size w w' := by
  have := RNParse_any A L c bs w hr hlc
  rw [h] at this
  exact this
set_option maxRecDepth 100000 in
set_option maxHeartbeats 4000000 in
theorem RForge_any (A : Option Addr) (n c : Nat) (ps : List Pk) (i a : Int) (y : UInt8) (w : World) (h : PksAt w A n ps) (hnc : n ≤ c) (hn : n ≤ 10000) (hval : ∀ x ∈ ps, validP x = true) :
    Calls Try.prog 17 #[netV A n c, .agg #[.int .i64 i, .int .i64 a, .int .u8 (y.toNat : Int)]] w (NetQ (forgeP ps i a y) w) := by
  obtain ⟨i39, hi39, hz39, hs39, hy39⟩ := info_parts info39
  obtain ⟨i30, hi30, hz30, _, _⟩ := info_parts info30
  obtain ⟨i0, hi0, hz0, hz1, hz2⟩ := info_parts info5
  obtain ⟨d39, hd39, hrow39⟩ := und39
  obtain ⟨d30, hd30, hrow30⟩ := und30
  have hpl := h.len
  obtain ⟨R, hR⟩ : ∃ q, q = w.heap.size + 2 := ⟨_, rfl⟩
  have hwR : w.heap.size ≤ R := by omega
  obtain ⟨w1, hw1⟩ : ∃ q, q = ((w.alloc (.cells #[.slice A n c] 30)).alloc (.cells #[.int .i64 i, .int .i64 a, .int .u8 (y.toNat : Int)] 33)).alloc (.cells #[.slice none 0 0] 30) := ⟨_, rfl⟩
  have hb1 : Below w.heap.size w w1 := by rw [hw1]; exact (((Below.refl _ _).alloc (Nat.le_refl _) _).alloc (by simp) _).alloc (by simp; omega) _
  have HXn := Lib.hid (show Blk w1 w.heap.size 30 #[.slice A n c] by rw [hw1]; exact ((Blk.new w _ _).alloc _).alloc _)
  have HXc := Lib.hid (show Blk w1 (w.heap.size + 1) 33 #[.int .i64 i, .int .i64 a, .int .u8 (y.toNat : Int)] by
    rw [hw1]
    have h := Blk.new (w.alloc (.cells #[.slice A n c] 30)) 33 #[.int .i64 i, .int .i64 a, .int .u8 (y.toNat : Int)]
    rw [World.size_alloc] at h
    exact h.alloc _)
  have HXr := Lib.hid (show Blk w1 R 30 #[.slice none 0 0] by
    rw [hw1, hR]
    have h := Blk.new ((w.alloc (.cells #[.slice A n c] 30)).alloc (.cells #[.int .i64 i, .int .i64 a, .int .u8 (y.toNat : Int)] 33)) 30 #[.slice none 0 0]
    rwa [World.size_alloc, World.size_alloc] at h)
  have HW1 := Lib.hid hw1
  have HB := Lib.hid hb1
  have Hn := Lib.hid (h.below hb1)
  have HRe := Lib.hid (show R = w.heap.size + 1 + 1 from hR)
  clear hw1 hb1 h hR
  unfold netV
  go_enter Try.func17, Try.ntmps17
  go_upto_region 1 with fail
  rw [← HW1.out, ← HRe.out]
  have c0 : w1.cell? ⟨w.heap.size + 1, 0, none⟩ = some (.int .i64 i) := (HXc.out.cell 0).trans rfl
  have Hk := Lib.hid (Blk.range HXn.out)
  go_upto_region 2 with (refine wpList_load_mid rfl 30 (.tmp 2) rfl w.heap.size 0 rfl [.slice A n c] d30 Hk.out hd30 hrow30 (by skip; kernel_rfl) ?_)
  clear Hk c0 HRe
  refine (Rhas_any A n c i w1).mono ?_
  rintro e v1 ⟨rfl, hb_⟩
  replace HB := Lib.hid (HB.out.trans (hb_.mono HB.out.size))
  replace HXn := Lib.hid (HXn.out.below hb_ HXn.out.lt)
  replace HXc := Lib.hid (HXc.out.below hb_ HXc.out.lt)
  replace HXr := Lib.hid (HXr.out.below hb_ HXr.out.lt)
  replace Hn := Lib.hid (Hn.out.below hb_)
  clear hb_
  by_cases hi : 0 ≤ i ∧ i < (n : Int)
  rotate_left
  · skip
    rw [decide_eq_false hi]
    have Hfp := Lib.hid (show forgeP ps i a y = (ps, 310) by unfold forgeP; rw [if_neg (by rw [hpl]; exact hi)])
    obtain ⟨hBe, hEe⟩ := net_store (A := A) (n := n) (c := c) (e := 310) HB.out hwR HXr.out Hn.out hnc
    rw [← Hfp.out] at hEe
    have HBe := Lib.hid hBe
    have HEe := Lib.hid hEe
    clear hBe hEe
    have Hrs := HXr
    have Hk := Lib.hid (Blk.range HXn.out)
    go_wp2_with (first | (refine wpList_load_mid rfl 30 (.tmp 2) rfl w.heap.size 0 rfl [.slice A n c] d30 Hk.out hd30 hrow30 (by skip; kernel_rfl) ?_) | (refine wpList_store_row rfl 30 (.tmp 4) (.tmp 15) rfl R #[.slice A n c] rfl rfl 30 _ Hrs.out (size30 _ rfl) rfl (net_one _ _ _) ?_))
    exact bodyPost_ret (results_row_tmp (p := 4) (u := 5) rfl _ _ R _ _ (0, 0) d30 rfl HBe.out hd30 hrow30 (size30 _ rfl)) rfl HEe.out
  rw [decide_eq_true hi]
  obtain ⟨k, rfl⟩ := Int.eq_ofNat_of_zero_le hi.1
  have hk : k < n := by omega
  have hk0 : (0 : Int) ≤ (k : Int) := by omega
  have hkL : (k : Int) < (n : Int) := by omega
  obtain ⟨x, hx⟩ : ∃ q, ps[k]? = some q := ⟨_, List.getElem?_eq_getElem (by omega)⟩
  have hxv := hval x (List.mem_of_getElem? hx)
  obtain ⟨cb, co, v, hAe, hrow⟩ := Hn.out.atR hx
  subst hAe
  have Hrow := Lib.hid hrow
  have Hx := Lib.hid hx
  clear hrow hx
  obtain ⟨bs, hbs⟩ : ∃ q, q = bytP x := ⟨_, rfl⟩
  have Hbs := Lib.hid hbs
  clear hbs
  have Hrw := Lib.hid (Hrow.out v1 (Below.refl _ _)).1
  have c0 : v1.cell? ⟨w.heap.size, 0, none⟩ = some (.slice (some ⟨cb, co, none⟩) n c) := (HXn.out.cell 0).trans rfl
  have c1 : v1.cell? ⟨w.heap.size + 1, 0, none⟩ = some (.int .i64 (k : Int)) := (HXc.out.cell 0).trans rfl
  go_upto_region 4 with (refine wpList_load_mid rfl 39 (.tmp 20) rfl cb (co + k * 7) rfl (pvC v) d39 Hrw.out hd39 hrow39 (by rw [pvC_len]; kernel_rfl) ?_)
  clear Hrw c0 c1
  refine (RNBytesZ_any v x bs v1 (Hrow.out v1 (Below.refl _ _)).2 hxv Hbs.out.symm).mono ?_
  rintro e wy ⟨⟨g, o, cL, rfl, hcL, hz_⟩, hby_⟩
  have Haz := Lib.hid hz_
  have Hby := Lib.hid hby_
  clear hz_ hby_
  obtain ⟨L, hL⟩ : ∃ q, q = bs.length := ⟨_, rfl⟩
  have HL := Lib.hid hL
  have hL3 : 3 ≤ L := by rw [hL, Hbs.out]; exact bytP_three x
  have hL5 : L ≤ 50000 := by rw [hL, Hbs.out]; exact bytP_bound hxv
  rw [← hL] at hcL
  replace Haz := Lib.hid (show AppZ wy _ 5 1 (.slice (some ⟨g, o, none⟩) L cL) L (bs.map byteV) from hL ▸ Haz.out)
  rw [← hL]
  clear hL
  have HB3 := Lib.hid (HB.out.trans (Hby.out.mono HB.out.size))
  have HXn3 := Lib.hid (HXn.out.below Hby.out HXn.out.lt)
  have HXc3 := Lib.hid (HXc.out.below Hby.out HXc.out.lt)
  have HXr3 := Lib.hid (HXr.out.below Hby.out HXr.out.lt)
  have Hn3 := Lib.hid (Hn.out.below Hby.out)
  have hfo : ¬ (0 ≤ a ∧ a < (L : Int)) → forgeP ps (k : Int) a y = (ps, 1) := fun h => forge_outR (by omega) (by rw [show ps.getD k pk0 = x by rw [List.getD_eq_getElem?_getD, Hx.out]; rfl, ← Hbs.out, ← HL.out]; exact h)
  have Hfo := Lib.hid hfo
  clear hfo
  have c1 : wy.cell? ⟨w.heap.size + 1, 1, none⟩ = some (.int .i64 a) := (HXc3.out.cell 1).trans rfl
  by_cases ha0 : 0 ≤ a
  rotate_left
  · skip
    have da : decide (a < 0) = true := decide_eq_true (by omega)
    have da1 : a < 0 := by omega
    have Hfp := Lib.hid (Hfo.out (fun h => ha0 h.1))
    obtain ⟨hBe, hEe⟩ := net_store (A := (some ⟨cb, co, none⟩)) (n := n) (c := c) (e := 1) HB3.out hwR HXr3.out Hn3.out hnc
    rw [← Hfp.out] at hEe
    have HBe := Lib.hid hBe
    have HEe := Lib.hid hEe
    clear hBe hEe
    have Hrs := HXr3
    have Hk := Lib.hid (Blk.range HXn3.out)
    go_wp2_with (first | (refine wpList_load_mid rfl 30 (.tmp 2) rfl w.heap.size 0 rfl [.slice (some ⟨cb, co, none⟩) n c] d30 Hk.out hd30 hrow30 (by skip; kernel_rfl) ?_) | (refine wpList_store_row rfl 30 (.tmp 4) (.tmp 33) rfl R #[.slice (some ⟨cb, co, none⟩) n c] rfl rfl 30 _ Hrs.out (size30 _ rfl) rfl (net_one _ _ _) ?_))
    exact bodyPost_ret (results_row_tmp (p := 4) (u := 5) rfl _ _ R _ _ (0, 0) d30 rfl HBe.out hd30 hrow30 (size30 _ rfl)) rfl HEe.out
  obtain ⟨k2, rfl⟩ := Int.eq_ofNat_of_zero_le ha0
  have da : decide ((k2 : Int) < 0) = false := decide_eq_false (by omega)
  have da1 : ¬ (k2 : Int) < 0 := by omega
  by_cases hal : k2 < L
  rotate_left
  · skip
    have db : decide ((k2 : Int) ≥ (L : Int)) = true := decide_eq_true (by omega)
    have db1 : (L : Int) ≤ (k2 : Int) := by omega
    have db2 : decide (L ≤ k2) = true := decide_eq_true (by omega)
    have Hfp := Lib.hid (Hfo.out (fun h => hal (by omega)))
    obtain ⟨hBe, hEe⟩ := net_store (A := (some ⟨cb, co, none⟩)) (n := n) (c := c) (e := 1) HB3.out hwR HXr3.out Hn3.out hnc
    rw [← Hfp.out] at hEe
    have HBe := Lib.hid hBe
    have HEe := Lib.hid hEe
    clear hBe hEe
    have Hrs := HXr3
    have Hk := Lib.hid (Blk.range HXn3.out)
    go_wp2_with (first | (refine wpList_load_mid rfl 30 (.tmp 2) rfl w.heap.size 0 rfl [.slice (some ⟨cb, co, none⟩) n c] d30 Hk.out hd30 hrow30 (by skip; kernel_rfl) ?_) | (refine wpList_store_row rfl 30 (.tmp 4) (.tmp 33) rfl R #[.slice (some ⟨cb, co, none⟩) n c] rfl rfl 30 _ Hrs.out (size30 _ rfl) rfl (net_one _ _ _) ?_))
    exact bodyPost_ret (results_row_tmp (p := 4) (u := 5) rfl _ _ R _ _ (0, 0) d30 rfl HBe.out hd30 hrow30 (size30 _ rfl)) rfl HEe.out
  have db : decide ((k2 : Int) ≥ (L : Int)) = false := decide_eq_false (by omega)
  have db1 : ¬ (L : Int) ≤ (k2 : Int) := by omega
  have db2 : decide (L ≤ k2) = false := decide_eq_false (by omega)
  go_upto_region 6 with fail
  clear da da1 db db1 db2 c1 Hfo
  have hk20 : (0 : Int) ≤ (k2 : Int) := by omega
  have hk2l : (k2 : Int) < (L : Int) := by omega
  have HRN := Lib.hid (rd_of_az Haz.out)
  obtain ⟨cur, hcur⟩ := Haz.out.row (by omega) g rfl
  have hbg : v1.heap.size ≤ g := (Haz.out.lt g rfl).1
  have Hcur := Lib.hid hcur
  clear hcur
  obtain ⟨z, hz⟩ : ∃ q, bs[k2]? = some q := ⟨_, List.getElem?_eq_getElem (by have := HL.out; omega)⟩
  have Hz := Lib.hid hz
  clear hz
  obtain ⟨zy, hzy⟩ : ∃ q, q = z ^^^ y := ⟨_, rfl⟩
  have Hzy := Lib.hid hzy
  have hxor := xor_bb z y
  rw [← hzy] at hxor
  clear hzy
  refine wp_region_flow_tail 12 [34, 35, 36, 37, 38, 39, 40, 41, 42, 43, 44, 45] [(Spec.is (.slice (some ⟨g, o, none⟩) L cL), false), (Spec.is (.pointer (some ⟨w.heap.size + 1, 1, none⟩)), false), (Spec.is (.int .i64 (k2 : Int)), false), (Spec.is (.slice (some ⟨g, o, none⟩) L cL), false), (Spec.is (.pointer (some ⟨w.heap.size + 1, 1, none⟩)), false), (Spec.is (.int .i64 (k2 : Int)), false), (Spec.is (.pointer (some ⟨g, o + k2, none⟩)), false), (Spec.is (.int .u8 (z.toNat : Int)), false), (Spec.is (.pointer (some ⟨w.heap.size + 1, 2, none⟩)), false), (Spec.is (.int .u8 (y.toNat : Int)), false), (Spec.is (.int .u8 (zy.toNat : Int)), false), (Spec.is (.pointer (some ⟨g, o + k2, none⟩)), false)] 69 (by kernel_rfl) (List.take_append_drop _ _) rfl (by kernel_rfl) (by kernel_rfl) (by kernel_rfl) (by decide) (by kernel_rfl) (by kernel_rfl) (fun _ _ d _ _ h => by cases d <;> exact h) rfl (by decide) rfl (by decide) (by kernel_rfl) ?_ ?_
  · refine ⟨?_, ?_, ?_, ?_, ?_, ?_, ?_, ?_, ?_, ?_, ?_, ?_, trivial⟩
    · intro a W hE hb hs
      have h6 : a.eval (.tmp 6) = .slice (some ⟨g, o, none⟩) L cL := hb 6 (by decide)
      refine flow0 rfl ?_
      exact val_move _ rfl _ h6 ⟨rfl, trivial⟩
    · intro a W hE hb hs
      have h3 : a.eval (.tmp 3) = .pointer (some ⟨w.heap.size + 1, 0, none⟩) := hb 3 (by decide)
      refine flow0 rfl ?_
      intro K hK
      unfold Oper.wp execOp
      simp only [h3]
      simp [go_sem]
      exact hK _ _ ⟨Below.refl _ _, rfl, trivial⟩
    · intro a W hE hb hs
      have h35 : a.eval (.tmp 35) = .pointer (some ⟨w.heap.size + 1, 1, none⟩) := hs 1 (by decide)
      refine flow0 rfl ?_
      have g0 : W.cell? ⟨w.heap.size + 1, 1, none⟩ = some (.int .i64 (k2 : Int)) := ((HXc3.out.below (ext_below hE) HXc3.out.lt).cell 1).trans rfl
      intro K hK
      unfold Oper.wp execOp
      simp only [h35]
      simp [go_sem, g0]
      exact hK _ _ ⟨Below.refl _ _, rfl, trivial⟩
    · intro a W hE hb hs
      have h6 : a.eval (.tmp 6) = .slice (some ⟨g, o, none⟩) L cL := hb 6 (by decide)
      refine flow0 rfl ?_
      exact val_move _ rfl _ h6 ⟨rfl, trivial⟩
    · intro a W hE hb hs
      have h3 : a.eval (.tmp 3) = .pointer (some ⟨w.heap.size + 1, 0, none⟩) := hb 3 (by decide)
      refine flow0 rfl ?_
      intro K hK
      unfold Oper.wp execOp
      simp only [h3]
      simp [go_sem]
      exact hK _ _ ⟨Below.refl _ _, rfl, trivial⟩
    · intro a W hE hb hs
      have h38 : a.eval (.tmp 38) = .pointer (some ⟨w.heap.size + 1, 1, none⟩) := hs 4 (by decide)
      refine flow0 rfl ?_
      have g0 : W.cell? ⟨w.heap.size + 1, 1, none⟩ = some (.int .i64 (k2 : Int)) := ((HXc3.out.below (ext_below hE) HXc3.out.lt).cell 1).trans rfl
      intro K hK
      unfold Oper.wp execOp
      simp only [h38]
      simp [go_sem, g0]
      exact hK _ _ ⟨Below.refl _ _, rfl, trivial⟩
    · intro a W hE hb hs
      have h37 : a.eval (.tmp 37) = .slice (some ⟨g, o, none⟩) L cL := hs 3 (by decide)
      have h39 : a.eval (.tmp 39) = .int .i64 (k2 : Int) := hs 5 (by decide)
      refine flow0 rfl ?_
      intro K hK
      unfold Oper.wp execOp
      simp only [h37, h39]
      simp [go_sem, hk20, hk2l]
      exact hK _ _ ⟨Below.refl _ _, rfl, trivial⟩
    · intro a W hE hb hs
      have h40 : a.eval (.tmp 40) = .pointer (some ⟨g, o + k2, none⟩) := hs 6 (by decide)
      refine flow0 rfl ?_
      have g0 : W.cell? ⟨g, o + k2, none⟩ = some (.int .u8 (z.toNat : Int)) := by
        obtain ⟨b', o', e', hc⟩ := (HRN.out.below (ext_below hE)).2.2 (by omega)
        cases e'
        exact hc k2 (byteV z) (by rw [List.getElem?_map, Hz.out]; rfl)
      intro K hK
      unfold Oper.wp execOp
      simp only [h40]
      simp [go_sem, g0]
      exact hK _ _ ⟨Below.refl _ _, rfl, trivial⟩
    · intro a W hE hb hs
      have h3 : a.eval (.tmp 3) = .pointer (some ⟨w.heap.size + 1, 0, none⟩) := hb 3 (by decide)
      refine flow0 rfl ?_
      intro K hK
      unfold Oper.wp execOp
      simp only [h3]
      simp [go_sem]
      exact hK _ _ ⟨Below.refl _ _, rfl, trivial⟩
    · intro a W hE hb hs
      have h42 : a.eval (.tmp 42) = .pointer (some ⟨w.heap.size + 1, 2, none⟩) := hs 8 (by decide)
      refine flow0 rfl ?_
      have g0 : W.cell? ⟨w.heap.size + 1, 2, none⟩ = some (.int .u8 (y.toNat : Int)) := ((HXc3.out.below (ext_below hE) HXc3.out.lt).cell 2).trans rfl
      intro K hK
      unfold Oper.wp execOp
      simp only [h42]
      simp [go_sem, g0]
      exact hK _ _ ⟨Below.refl _ _, rfl, trivial⟩
    · intro a W hE hb hs
      have h41 : a.eval (.tmp 41) = .int .u8 (z.toNat : Int) := hs 7 (by decide)
      have h43 : a.eval (.tmp 43) = .int .u8 (y.toNat : Int) := hs 9 (by decide)
      refine flow0 rfl ?_
      exact val_run _ (run_bin_opI .xor 5 (.tmp 41) (.tmp 43) 5 rfl W _ _ _ h41 h43 (by simp [eqGuard, go_sem]) (hxor W)) ⟨rfl, trivial⟩
    · intro a W hE hb hs
      have h34 : a.eval (.tmp 34) = .slice (some ⟨g, o, none⟩) L cL := hs 0 (by decide)
      have h36 : a.eval (.tmp 36) = .int .i64 (k2 : Int) := hs 2 (by decide)
      refine flow0 rfl ?_
      intro K hK
      unfold Oper.wp execOp
      simp only [h34, h36]
      simp [go_sem, hk20, hk2l]
      exact hK _ _ ⟨Below.refl _ _, rfl, trivial⟩
  intro f W hb hT hp hd
  have e44 : f 44 = .int .u8 (zy.toNat : Int) := hT 10 (by decide)
  have e45 : f 45 = .pointer (some ⟨g, o + k2, none⟩) := hT 11 (by decide)
  simp only [putV, List.foldl_cons, List.foldl_nil, Act.put, List.setIfInBounds_toArray, List.set_cons_succ, List.set_cons_zero]
  rw [e44, e45]
  have hcurW := Hcur.out.below hb Hcur.out.lt
  have frz := hcurW.frozen (o + k2)
  have cz : W.cell? ⟨g, o + k2, none⟩ = some (.int .u8 (z.toNat : Int)) := by
    obtain ⟨b', o', e', hc⟩ := (HRN.out.below hb).2.2 (by omega)
    cases e'
    exact hc k2 (byteV z) (by rw [List.getElem?_map, Hz.out]; rfl)
  obtain ⟨wt, hwt⟩ : ∃ q, q = W.setCell ⟨g, o + k2, none⟩ (.int .u8 (zy.toNat : Int)) := ⟨_, rfl⟩
  have hrt : Rd wt 1 (some ⟨g, o, none⟩) L ((bs.set k2 zy).map byteV) := by rw [hwt]; exact rd_setB (HRN.out.below hb) hal zy
  have hb_ : Below v1.heap.size v1 wt := by rw [hwt]; exact Below.setCell (Hby.out.trans (hb.mono Hby.out.size)) (show _ ≤ g by omega) _
  obtain ⟨bt, hbt⟩ : ∃ q, q = bs.set k2 zy := ⟨_, rfl⟩
  rw [← hbt] at hrt
  have H15 := Lib.hid hrt
  have HWT := Lib.hid hwt
  have Hbt := Lib.hid (show bt = bs.set k2 (bs.getD k2 0 ^^^ y) by rw [hbt, Hzy.out, List.getD_eq_getElem?_getD, Hz.out]; rfl)
  replace HB := Lib.hid (HB.out.trans (hb_.mono HB.out.size))
  replace HXn := Lib.hid (HXn.out.below hb_ HXn.out.lt)
  replace HXc := Lib.hid (HXc.out.below hb_ HXc.out.lt)
  replace HXr := Lib.hid (HXr.out.below hb_ HXr.out.lt)
  replace Hn := Lib.hid (Hn.out.below hb_)
  clear hb_ hrt hbt hwt hb hT hp hd e44 e45
  clear hxor hk20 hk2l
  go_upto_region 7 with fail
  rw [← HWT.out]
  clear HWT cz frz hcurW Hcur HRN Hby Haz Hz Hzy HB3 HXn3 HXc3 HXr3 Hn3
  have Hfg := Lib.hid (And.intro (forge_badR (y := y) Hx.out (show k2 < bs.length by have := HL.out; omega) Hbs.out) (forge_goodR (y := y) Hx.out (show k2 < bs.length by have := HL.out; omega) Hbs.out))
  obtain ⟨T, hT⟩ : ∃ q, q = ansP bt := ⟨_, rfl⟩
  have HT := Lib.hid hT
  clear hT
  go_upto_region 8 with fail
  refine (RNParse0_any (some ⟨g, o, none⟩) L cL bt T.1 T.2 wt H15.out hcL HT.out.symm).mono ?_
  rintro e v51 ⟨⟨pv7, rfl, hp_⟩, hb_⟩
  replace HB := Lib.hid (HB.out.trans (hb_.mono HB.out.size))
  replace HXn := Lib.hid (HXn.out.below hb_ HXn.out.lt)
  replace HXc := Lib.hid (HXc.out.below hb_ HXc.out.lt)
  replace HXr := Lib.hid (HXr.out.below hb_ HXr.out.lt)
  replace Hn := Lib.hid (Hn.out.below hb_)
  replace H15 := Lib.hid (H15.out.below hb_)
  clear hb_
  have Hp7 := Lib.hid hp_
  clear hp_
  clear H15
  go_upto_region 8 with (first | (refine wpList_alloc0 rfl 39 rfl (pvC pv0).toArray _ i39 hi39 hz39 rfl ?_; simp only [Act.put, List.setIfInBounds_toArray, List.set_cons_succ, List.set_cons_zero]; try simp only [World.size_alloc]) | (refine wpList_store_row rfl 39 (.tmp 7) (.tmp 49) rfl v51.heap.size (pvC pv7).toArray rfl rfl 39 _ (Blk.new v51 _ _) (size39 _ rfl) rfl (pv_row_one _) ?_; rw [alloc_setRow]))
  obtain ⟨X7, hX7⟩ : ∃ q, q = v51.heap.size := ⟨_, rfl⟩
  obtain ⟨v52, hv52⟩ : ∃ q, q = v51.alloc (.cells (pvC pv7).toArray 39) := ⟨_, rfl⟩
  have hb_ : Below v51.heap.size v51 v52 := by rw [hv52]; exact (Below.refl _ _).alloc (Nat.le_refl _) _
  have HBX7 := Lib.hid (show Blk v52 X7 39 (pvC pv7).toArray by rw [hv52, hX7]; exact Blk.new _ _ _)
  have hlX7 : w.heap.size ≤ X7 := by have := HB.out.size; omega
  rw [← hv52, ← hX7]
  replace HB := Lib.hid (HB.out.trans (hb_.mono HB.out.size))
  replace HXn := Lib.hid (HXn.out.below hb_ HXn.out.lt)
  replace HXc := Lib.hid (HXc.out.below hb_ HXc.out.lt)
  replace HXr := Lib.hid (HXr.out.below hb_ HXr.out.lt)
  replace Hn := Lib.hid (Hn.out.below hb_)
  replace Hp7 := Lib.hid (Hp7.out.below hb_)
  clear hb_ hv52 hX7
  rcases ans_cases bt with ⟨h1, h2⟩ | ⟨h1, h2, h3, h4⟩
  · skip
    have HTe := Lib.hid (show T.2 = 310 by rw [HT.out]; exact h2)
    have hpn : parP bt = none := by
      cases hq : parP bt with
      | none => rfl
      | some q => unfold ansP at h2; rw [hq] at h2; simp at h2
    have Hfp := Lib.hid (show forgeP ps (k : Int) (k2 : Int) y = (ps.eraseIdx k, 0) from Hfg.out.1 (by rw [← Hbt.out]; exact hpn))
    clear h1 h2 hpn
    rw [HTe.out]
    have c1 : v52.cell? ⟨w.heap.size + 1, 0, none⟩ = some (.int .i64 (k : Int)) := (HXc.out.cell 0).trans rfl
    have Hk := Lib.hid (Blk.range HXn.out)
    go_wp2_with (refine wpList_load_mid rfl 30 (.tmp 2) rfl w.heap.size 0 rfl [.slice (some ⟨cb, co, none⟩) n c] d30 Hk.out hd30 hrow30 (by skip; kernel_rfl) ?_)
    clear Hk c1
    refine (Rwithout_any (some ⟨cb, co, none⟩) n c k ps v52 Hn.out hk hnc hn).mono ?_
    rintro e v53 ⟨⟨A9, c9, rfl, hc9, hp_, _⟩, hb_⟩
    replace HB := Lib.hid (HB.out.trans (hb_.mono HB.out.size))
    replace HXn := Lib.hid (HXn.out.below hb_ HXn.out.lt)
    replace HXc := Lib.hid (HXc.out.below hb_ HXc.out.lt)
    replace HXr := Lib.hid (HXr.out.below hb_ HXr.out.lt)
    replace Hn := Lib.hid (Hn.out.below hb_)
    replace Hp7 := Lib.hid (Hp7.out.below hb_)
    replace HBX7 := Lib.hid (HBX7.out.below hb_ HBX7.out.lt)
    clear hb_
    have Hw := Lib.hid hp_
    clear hp_
    obtain ⟨hBe, hEe⟩ := net_store (A := A9) (n := (n - 1)) (c := c9) (e := 0) HB.out hwR HXr.out Hw.out hc9
    rw [← Hfp.out] at hEe
    have HBe := Lib.hid hBe
    have HEe := Lib.hid hEe
    clear hBe hEe
    have Hrs := HXr
    go_wp2_with (first | (refine wpList_store_row rfl 30 (.tmp 4) (.tmp 56) rfl R #[.slice A9 (n - 1) c9] rfl rfl 30 _ Hrs.out (size30 _ rfl) rfl (net_one _ _ _) ?_))
    exact bodyPost_ret (results_row_tmp (p := 4) (u := 5) rfl _ _ R _ _ (0, 0) d30 rfl HBe.out hd30 hrow30 (size30 _ rfl)) rfl HEe.out
  · skip
    have HTe := Lib.hid (show T.2 = 0 by rw [HT.out]; exact h2)
    obtain ⟨q, hq⟩ : ∃ q, q = T.1 := ⟨_, rfl⟩
    have Hfp := Lib.hid (show forgeP ps (k : Int) (k2 : Int) y = (ps.set k q, 0) from Hfg.out.2 q (by rw [← Hbt.out, hq, HT.out]; exact h1))
    rw [← hq] at Hp7
    clear h1 h2 h3 h4 hq
    rw [HTe.out]
    go_upto_region 10 with fail
    have hwW5 : w.heap.size ≤ v52.heap.size := HB.out.size
    obtain ⟨bZ, hbZ⟩ : ∃ q, q = v52.heap.size := ⟨_, rfl⟩
    obtain ⟨v81, hv81⟩ : ∃ q, q = v52.alloc (.cells #[] 39) := ⟨_, rfl⟩
    have HbZ := Lib.hid (show Below v52.heap.size v52 v81 by rw [hv81]; exact (Below.refl _ _).alloc (Nat.le_refl _) _)
    have HoZ := Lib.hid (show OwnP v81 bZ (.slice (some ⟨bZ, 0, none⟩) 0 0) 0 [] by rw [hv81, hbZ]; exact OwnP.empty v52 (Nat.le_refl _))
    have hsZ : bZ ≤ v81.heap.size := by have := HbZ.out.size; omega
    have HzZ := Lib.hid hbZ
    have HWZ := Lib.hid hv81
    clear hv81 hbZ
    have cn : (v52.alloc (.cells #[] 39)).cell? ⟨w.heap.size, 0, none⟩ = some (.slice (some ⟨cb, co, none⟩) n c) := by rw [← HWZ.out]; exact ((HXn.out.below HbZ.out HXn.out.lt).cell 0).trans rfl
    go_upto_region 11 with (first | (at_builtin; rw [← HWZ.out, ← HzZ.out]; refine wpList_ownp rfl (.tmp 57) (.tmp 59) rfl bZ hsZ _ 0 [] rfl HoZ.out (some ⟨cb, co, none⟩) n c ps rfl (Hn.out.below HbZ.out) (by omega) ?_; intro v_Z waZ ho_Z hb_Z hk_Z; rw [Nat.zero_add, List.nil_append] at ho_Z; obtain ⟨AZ, cZ, rfl, hcZ, hp_Z⟩ := ho_Z.pks; have HOZ := Lib.hid ho_Z; have HpZ := Lib.hid hp_Z; have HBZ := Lib.hid (show Below v52.heap.size v52 waZ from HbZ.out.trans (HzZ.out ▸ hb_Z)); clear ho_Z hp_Z hb_Z hk_Z; clear cn) | (refine wpList_buildN rfl 30 _ rfl [(0, .slice AZ n cZ)] rfl _ (built30 AZ n cZ) ?_) | (refine wpList_alloc0 rfl 30 rfl #[.slice none 0 0] _ i30 hi30 hz30 rfl ?_; simp only [Act.put, List.setIfInBounds_toArray, List.set_cons_succ, List.set_cons_zero]; try simp only [World.size_alloc]) | (refine wpList_store_row rfl 30 (.tmp 9) (.tmp 61) rfl waZ.heap.size #[.slice AZ n cZ] rfl rfl 30 _ (Blk.new waZ _ _) (size30 _ rfl) rfl (net_one _ _ _) ?_; rw [alloc_setRow]))
    replace HB := Lib.hid (HB.out.trans (HBZ.out.mono HB.out.size))
    replace HXn := Lib.hid (HXn.out.below HBZ.out HXn.out.lt)
    replace HXc := Lib.hid (HXc.out.below HBZ.out HXc.out.lt)
    replace HXr := Lib.hid (HXr.out.below HBZ.out HXr.out.lt)
    replace Hn := Lib.hid (Hn.out.below HBZ.out)
    replace Hp7 := Lib.hid (Hp7.out.below HBZ.out)
    replace HBX7 := Lib.hid (HBX7.out.below HBZ.out HBX7.out.lt)
    skip
    have hz5 : v52.heap.size ≤ bZ := by have := HzZ.out; omega
    skip
    clear HpZ HBZ HbZ HoZ HWZ hsZ
    obtain ⟨X9, hX9⟩ : ∃ q, q = waZ.heap.size := ⟨_, rfl⟩
    obtain ⟨v82, hv82⟩ : ∃ q, q = waZ.alloc (.cells #[.slice AZ n cZ] 30) := ⟨_, rfl⟩
    have hb_ : Below waZ.heap.size waZ v82 := by rw [hv82]; exact (Below.refl _ _).alloc (Nat.le_refl _) _
    have HBX9 := Lib.hid (show Blk v82 X9 30 #[.slice AZ n cZ] by rw [hv82, hX9]; exact Blk.new _ _ _)
    have hlX9 : w.heap.size ≤ X9 := by have := HB.out.size; omega
    rw [← hv82, ← hX9]
    have hoX7X9 : X7 < X9 := by have := HBX7.out.lt; omega
    replace HOZ := Lib.hid (HOZ.out.below hb_ (Nat.le_refl _))
    replace HB := Lib.hid (HB.out.trans (hb_.mono HB.out.size))
    replace HXn := Lib.hid (HXn.out.below hb_ HXn.out.lt)
    replace HXc := Lib.hid (HXc.out.below hb_ HXc.out.lt)
    replace HXr := Lib.hid (HXr.out.below hb_ HXr.out.lt)
    replace Hn := Lib.hid (Hn.out.below hb_)
    replace Hp7 := Lib.hid (Hp7.out.below hb_)
    replace HBX7 := Lib.hid (HBX7.out.below hb_ HBX7.out.lt)
    clear hb_ hv82 hX9
    obtain ⟨gz, oz, hAe⟩ := HOZ.out.ptrR (by omega)
    subst hAe
    have Hk := Lib.hid (Blk.range HBX7.out)
    have c9a : v82.cell? ⟨X9, 0, none⟩ = some (.slice (some ⟨gz, oz, none⟩) n cZ) := (HBX9.out.cell 0).trans rfl
    have c1 : v82.cell? ⟨w.heap.size + 1, 0, none⟩ = some (.int .i64 (k : Int)) := (HXc.out.cell 0).trans rfl
    obtain ⟨wt2, hwt⟩ : ∃ q_, q_ = v82.setCells gz (oz + k * 7) (pvC pv7) := ⟨_, rfl⟩
    obtain ⟨hth, hpt, hgb, hgc⟩ := HOZ.out.setPkR hk Hp7.out
    rw [← hwt] at hpt
    have hkt : KeptIn (fun b => b ≠ gz) v82 wt2 := by rw [hwt]; exact kept_setCells7 _ _ _ _
    obtain ⟨gcur, hgB⟩ := hgc
    have hne : ∀ t, t ≠ 39 → ∀ b cur, Blk v82 b t cur → b ≠ gz := fun t h b cur hb => hb.ne hgB h
    have Hr2 := Lib.hid (HXr.out.keptIn hkt (hne _ (by decide) _ _ HXr.out))
    have H92 := Lib.hid (HBX9.out.keptIn hkt (hne _ (by decide) _ _ HBX9.out))
    have HB2 := Lib.hid (HB.out.trans (KeptIn.below hkt fun b hb => by have := HzZ.out; have := hwW5; omega))
    have Hpt := Lib.hid hpt
    have Hth := Lib.hid hth
    have HWT := Lib.hid hwt
    clear hwt hth hpt hgb hkt hgB hne
    go_upto_region 12 with (first | (refine wpList_load_mid rfl 39 (.tmp 7) rfl X7 0 rfl (pvC pv7) d39 Hk.out hd39 hrow39 (by rw [pvC_len]; kernel_rfl) ?_) | (refine wpList_store_mid rfl 39 (.tmp 67) (.tmp 66) rfl gz (oz + k * 7) (pvC pv7).toArray rfl rfl Hth.out (size39 _ rfl) (pv_row_one _) ?_; rw [show (pvC pv7).toArray.toList = pvC pv7 from rfl, ← HWT.out]))
    clear HWT Hth Hk c9a c1
    obtain ⟨hBe, hEe⟩ := net_store (A := (some ⟨gz, oz, none⟩)) (n := n) (c := cZ) (e := 0) HB2.out hwR Hr2.out Hpt.out hcZ
    rw [← Hfp.out] at hEe
    have HBe := Lib.hid hBe
    have HEe := Lib.hid hEe
    clear hBe hEe
    have Hrs := Hr2
    have Hk := Lib.hid (Blk.range H92.out)
    go_wp2_with (first | (refine wpList_load_mid rfl 30 (.tmp 9) rfl X9 0 rfl [.slice (some ⟨gz, oz, none⟩) n cZ] d30 Hk.out hd30 hrow30 (by skip; kernel_rfl) ?_) | (refine wpList_store_row rfl 30 (.tmp 4) (.tmp 68) rfl R #[.slice (some ⟨gz, oz, none⟩) n cZ] rfl rfl 30 _ Hrs.out (size30 _ rfl) rfl (net_one _ _ _) ?_))
    exact bodyPost_ret (results_row_tmp (p := 4) (u := 5) rfl _ _ R _ _ (0, 0) d30 rfl HBe.out hd30 hrow30 (size30 _ rfl)) rfl HEe.out
/-! ### NetMatchesReference: the walk. -/

theorem infoCH : (Try.prog.info? 33).map (fun i => (i.zero, i.size, i.bytes)) = some (some (.agg #[.int .i64 0, .int .i64 0, .int .u8 0]), 3, 24) := by kernel_rfl
theorem sizeCH (cs : Array Value) (h : cs.size = 3) : (Try.prog.info? 33).map (·.size) = some cs.size := by rw [h]; kernel_rfl
theorem builtCH (J q : Int) (Y : Nat) : Try.prog.built 33 [(0, .int .i64 J), (1, .int .i64 q), (2, .int .u8 (Y : Int))] = some #[.int .i64 J, .int .i64 q, .int .u8 (Y : Int)] := by kernel_rfl
theorem chg_one (J q y : Int) : (#[Value.int .i64 J, .int .i64 q, .int .u8 y] : Array Value).all (·.oneCell') = true := all_oneCell_toArray (cs := [Value.int .i64 J, .int .i64 q, .int .u8 y]) fun v hv => by
  simp only [List.mem_cons, List.not_mem_nil, or_false] at hv
  rcases hv with rfl | rfl | rfl <;> rfl
theorem undCH : ∃ d, Try.prog.underlying 33 = some d ∧ d.isRow = true := by
  obtain ⟨d, h1, h2⟩ := Option.map_eq_some_iff.1 (show (Try.prog.underlying 33).map (·.isRow) = some true by kernel_rfl)
  exact ⟨d, h1, h2⟩
theorem getD_ok {P : List Pk} (h : ∀ x ∈ P, okP x) (i : Nat) : okP (P.getD i pk0) := by
  rw [List.getD_eq_getElem?_getD]
  cases e : P[i]? with
  | none => exact okP0
  | some x => exact h x (List.mem_of_getElem? e)
theorem takeP_ok {P : List Pk} {i : Int} (h : ∀ x ∈ P, okP x) : okP (takeP P i).1 ∧ (∀ x ∈ (takeP P i).2.1, okP x) ∧ (takeP P i).2.1.length ≤ P.length := by
  unfold takeP
  split
  · exact ⟨getD_ok h _, fun x hx => h x (List.mem_of_mem_eraseIdx hx), by rw [List.length_eraseIdx]; split <;> omega⟩
  · exact ⟨okP0, h, Nat.le_refl _⟩
theorem doubleP_ok {P : List Pk} {i : Int} (h : ∀ x ∈ P, okP x) : (∀ x ∈ (doubleP P i).1, okP x) ∧ (doubleP P i).1.length ≤ P.length + 1 := by
  unfold doubleP
  split
  · split
    · exact ⟨h, by dsimp only; omega⟩
    · refine ⟨fun x hx => ?_, by simp⟩
      rcases List.mem_append.1 hx with h' | h'
      · exact h x h'
      · rw [List.mem_singleton.1 h']; exact getD_ok h _
  · exact ⟨h, by dsimp only; omega⟩
theorem forgeP_ok {P : List Pk} {i a : Int} {y : UInt8} (h : ∀ x ∈ P, validP x = true) : (∀ x ∈ (forgeP P i a y).1, okP x) ∧ (forgeP P i a y).1.length ≤ P.length := by
  have hP : ∀ x ∈ P, okP x := fun x hx => okP_of (h x hx)
  unfold forgeP
  split
  · dsimp only
    split
    · split
      · rename_i q hq
        refine ⟨fun x hx => ?_, by simp⟩
        rcases List.mem_or_eq_of_mem_set hx with h' | h'
        · exact hP x h'
        · rw [h']; exact okP_of (parP_inv hq).2
      · exact ⟨fun x hx => hP x (List.mem_of_mem_eraseIdx hx), by dsimp only; rw [List.length_eraseIdx]; split <;> omega⟩
    · exact ⟨hP, Nat.le_refl _⟩
  · exact ⟨hP, Nat.le_refl _⟩
theorem RTake0_any (A : Option Addr) (n c : Nat) (ps : List Pk) (i : Int) (p : Pk) (qs : List Pk) (e : Int) (w : World) (h : PksAt w A n ps) (hnc : n ≤ c) (hn : n ≤ 10000) (hf : takeP ps i = (p, qs, e)) :
    Calls Try.prog 13 #[.agg #[.slice A n c], .int .i64 i] w fun r w' => (∃ (v : Pv) (A' : Option Addr) (N c' : Nat), r = .returned (.tuple #[.agg (pvC v).toArray, .agg #[.slice A' N c'], .int .i64 e]) ∧ N ≤ c' ∧ PvOk w' v p ∧ PksAt w' A' N qs) ∧ Below w.heap.size w w' := by
  have := RTake_any A n c ps i w h hnc hn
  unfold TakeQ at this
  rw [hf] at this
  exact this
theorem RDouble0_any (A : Option Addr) (n c : Nat) (ps : List Pk) (i : Int) (qs : List Pk) (e : Int) (w : World) (h : PksAt w A n ps) (hnc : n ≤ c) (hn : n ≤ 10000) (hf : doubleP ps i = (qs, e)) :
    Calls Try.prog 15 #[.agg #[.slice A n c], .int .i64 i] w fun r w' => (∃ (A' : Option Addr) (N c' : Nat), r = .returned (.tuple #[.agg #[.slice A' N c'], .int .i64 e]) ∧ N ≤ c' ∧ PksAt w' A' N qs) ∧ Below w.heap.size w w' := by
  have := RDouble_any A n c ps i w h hnc hn
  rw [hf] at this
  exact this
theorem RForge0_any (A : Option Addr) (n c : Nat) (ps : List Pk) (i a : Int) (y : Nat) (qs : List Pk) (e : Int) (w : World) (h : PksAt w A n ps) (hnc : n ≤ c) (hn : n ≤ 10000) (hval : ∀ x ∈ ps, validP x = true) (hf : y < 256 ∧ forgeP ps i a (UInt8.ofNat y) = (qs, e)) :
    Calls Try.prog 17 #[.agg #[.slice A n c], .agg #[.int .i64 i, .int .i64 a, .int .u8 (y : Int)]] w fun r w' => (∃ (A' : Option Addr) (N c' : Nat), r = .returned (.tuple #[.agg #[.slice A' N c'], .int .i64 e]) ∧ N ≤ c' ∧ PksAt w' A' N qs) ∧ Below w.heap.size w w' := by
  have := RForge_any A n c ps i a (UInt8.ofNat y) w h hnc hn hval
  rw [hf.2, show (UInt8.ofNat y).toNat = y by rw [UInt8.toNat_ofNat']; omega] at this
  exact this
theorem SendZ_any (A : Option Addr) (n c : Nat) (ps : List Pk) (B : Option Addr) (m d : Nat) (qs : List Pk) (N : Nat) (S : List Pk) (w : World) (h1 : PksAt w A n ps) (h2 : PksAt w B m qs) (hn : n ≤ 64) (hm : m ≤ 10000) (hmd : m ≤ d) (hN : N = n + min m (64 - n)) (hS : S = ps ++ qs.take (64 - n)) :
    Calls Try.prog 20 #[.agg #[.slice A n c], .slice B m d] w fun e w' => (∃ (A' : Option Addr) (c' : Nat), e = .returned (.agg #[.slice A' N c']) ∧ PksAt w' A' N S) ∧ Below w.heap.size w w' := by
  refine (Send0_any A n c ps B m d qs w h1 h2 hn hm hmd).mono ?_
  rintro e w' ⟨⟨A', c', rfl, _, hp, _⟩, hb⟩
  exact ⟨⟨A', c', by rw [hN]; rfl, by rw [hN, hS]; exact hp⟩, hb⟩
theorem RSendZ_any (A : Option Addr) (n c : Nat) (ps : List Pk) (B : Option Addr) (m d : Nat) (qs : List Pk) (N : Nat) (S : List Pk) (w : World) (h1 : PksAt w A n ps) (h2 : PksAt w B m qs) (hn : n ≤ 64) (hm : m ≤ 10000) (_ : m ≤ d) (hN : N = n + min m (64 - n)) (hS : S = ps ++ qs.take (64 - n)) :
    Calls Try.prog 21 #[.agg #[.slice A n c], .slice B m d] w fun e w' => (∃ (A' : Option Addr) (c' : Nat), e = .returned (.agg #[.slice A' N c']) ∧ PksAt w' A' N S) ∧ Below w.heap.size w w' := by
  refine (RSend_any A n c ps B m d qs w h1 h2 hn hm).mono ?_
  rintro e w' ⟨⟨A', c', rfl, _, hp, _⟩, hb⟩
  exact ⟨⟨A', c', by rw [hN]; rfl, by rw [hN, hS]; exact hp⟩, hb⟩
def spNetC (n : Nat) (ps : List Pk) : Spec := ⟨fun v W => ∃ (A : Option Addr) (c : Nat), v = .agg #[.slice A n c] ∧ PksAt W A n ps, fun _ _ _ ⟨A, c, h1, h2⟩ hb => ⟨A, c, h1, h2.below hb⟩⟩
set_option maxRecDepth 100000 in
set_option maxHeartbeats 4000000 in
theorem NetMatchesReference_any (A : Option Addr) (n c : Nat) (xs : List Rw) (B : Option Addr) (m d : Nat) (ys : List Rw) (q0 q1 q2 q3 : Int) (C : Option Addr) (len cap : Nat) (bs : List UInt8) (w : World) (hx : RawsAt w A n xs) (hy : RawsAt w B m ys)
    (b0 : -32768 ≤ q0 ∧ q0 ≤ 32767) (b1 : -32768 ≤ q1 ∧ q1 ≤ 32767) (b2 : -32768 ≤ q2 ∧ q2 ≤ 32767) (_b3 : -32768 ≤ q3 ∧ q3 ≤ 32767) (hr : Rd w 1 C len (bs.map byteV)) (hlc : len ≤ cap) :
    Calls Try.prog 3 #[.agg #[.slice A n c, .slice B m d], .agg #[.int .i16 q0, .int .i16 q1, .int .i16 q2, .int .i16 q3], .slice C len cap] w fun e w' => e = .returned (.bool true) ∧ Below w.heap.size w w' := by
  obtain ⟨i39, hi39, hz39, hs39, hy39⟩ := info_parts info39
  obtain ⟨i30, hi30, hz30, _, _⟩ := info_parts info30
  obtain ⟨i0, hi0, hz0, hz1, hz2⟩ := info_parts info5
  obtain ⟨d39, hd39, hrow39⟩ := und39
  obtain ⟨d30, hd30, hrow30⟩ := und30
  obtain ⟨iC, hiC, hzC, _, _⟩ := info_parts infoCH
  obtain ⟨dC, hdC, hrowC⟩ := undCH
  obtain ⟨w1, hw1⟩ : ∃ q, q = (w.alloc (.cells #[.slice A n c, .slice B m d] 23)).alloc (.cells #[.int .i16 q0, .int .i16 q1, .int .i16 q2, .int .i16 q3] 25) := ⟨_, rfl⟩
  have hb1 : Below w.heap.size w w1 := by rw [hw1]; exact ((Below.refl _ _).alloc (Nat.le_refl _) _).alloc (by simp) _
  have HW := Lib.hid (show Blk w1 w.heap.size 23 #[.slice A n c, .slice B m d] by rw [hw1]; exact (Blk.new _ _ _).alloc _)
  have HWq := Lib.hid (show Blk w1 (w.heap.size + 1) 25 #[.int .i16 q0, .int .i16 q1, .int .i16 q2, .int .i16 q3] by
    have := Blk.new (w.alloc (.cells #[.slice A n c, .slice B m d] 23)) 25 #[.int .i16 q0, .int .i16 q1, .int .i16 q2, .int .i16 q3]
    rw [World.size_alloc] at this
    rw [hw1]; exact this)
  have HW1 := Lib.hid hw1
  have HB := Lib.hid hb1
  have Hx := Lib.hid (hx.below hb1)
  have Hy := Lib.hid (hy.below hb1)
  have Hr := Lib.hid (hr.below hb1)
  clear hw1 hb1 hx hy hr
  go_enter Try.func3, Try.ntmps3
  go_upto_region 1 with fail
  rw [← HW1.out]
  go_upto_region 2 with fail
  refine (sanity_any w1).mono ?_
  rintro e v1 ⟨rfl, hb_⟩
  replace HB := Lib.hid (HB.out.trans (hb_.mono HB.out.size))
  replace HW := Lib.hid (HW.out.below hb_ HW.out.lt)
  replace HWq := Lib.hid (HWq.out.below hb_ HWq.out.lt)
  replace Hx := Lib.hid (Hx.out.below hb_)
  replace Hy := Lib.hid (Hy.out.below hb_)
  replace Hr := Lib.hid (Hr.out.below hb_)
  clear hb_
  have c0 : v1.cell? ⟨w.heap.size, 0, none⟩ = some (.slice A n c) := (HW.out.cell 0).trans rfl
  go_upto_region 3 with fail
  refine (MadeNet0_any A n c xs v1 Hx.out).mono ?_
  rintro e v2 ⟨⟨A8, N8, c8, rfl, hc8, hN8, hp_⟩, hb_⟩
  replace HB := Lib.hid (HB.out.trans (hb_.mono HB.out.size))
  replace HW := Lib.hid (HW.out.below hb_ HW.out.lt)
  replace HWq := Lib.hid (HWq.out.below hb_ HWq.out.lt)
  replace Hx := Lib.hid (Hx.out.below hb_)
  replace Hy := Lib.hid (Hy.out.below hb_)
  replace Hr := Lib.hid (Hr.out.below hb_)
  clear hb_
  clear c0
  obtain ⟨P, hP⟩ : ∃ q, q = (xs.take 64).map madeP := ⟨_, rfl⟩
  rw [← hP] at hp_
  have HPok := Lib.hid (show ∀ x ∈ P, okP x from fun x hx => (made_ok xs 64 x (hP ▸ hx)).1)
  have HPv := Lib.hid (show ∀ x ∈ P, validP x = true from fun x hx => (made_ok xs 64 x (hP ▸ hx)).2)
  obtain rfl : P.length = N8 := hp_.len
  have Hn8 := Lib.hid hp_
  clear hp_ hP
  clear Hx
  go_upto_region 3 with (first | (refine wpList_alloc0 rfl 30 rfl #[.slice none 0 0] _ i30 hi30 hz30 rfl ?_; simp only [Act.put, List.setIfInBounds_toArray, List.set_cons_succ, List.set_cons_zero]; try simp only [World.size_alloc]) | (refine wpList_store_row rfl 30 (.tmp 8) (.tmp 33) rfl v2.heap.size #[.slice A8 P.length c8] rfl rfl 30 _ (Blk.new v2 _ _) (size30 _ rfl) rfl (net_one _ _ _) ?_; rw [alloc_setRow]))
  obtain ⟨X8, hX8⟩ : ∃ q, q = v2.heap.size := ⟨_, rfl⟩
  obtain ⟨v3, hv3⟩ : ∃ q, q = v2.alloc (.cells #[.slice A8 P.length c8] 30) := ⟨_, rfl⟩
  have hb_ : Below v2.heap.size v2 v3 := by rw [hv3]; exact (Below.refl _ _).alloc (Nat.le_refl _) _
  have HBX8 := Lib.hid (show Blk v3 X8 30 #[.slice A8 P.length c8] by rw [hv3, hX8]; exact Blk.new _ _ _)
  have hlX8 : w.heap.size ≤ X8 := by have := HB.out.size; omega
  rw [← hv3, ← hX8]
  replace HB := Lib.hid (HB.out.trans (hb_.mono HB.out.size))
  replace HW := Lib.hid (HW.out.below hb_ HW.out.lt)
  replace HWq := Lib.hid (HWq.out.below hb_ HWq.out.lt)
  replace Hy := Lib.hid (Hy.out.below hb_)
  replace Hr := Lib.hid (Hr.out.below hb_)
  replace Hn8 := Lib.hid (Hn8.out.below hb_)
  clear hb_ hv3 hX8
  have c0 : v3.cell? ⟨w.heap.size, 1, none⟩ = some (.slice B m d) := (HW.out.cell 1).trans rfl
  go_upto_region 4 with fail
  refine (MadeNet0_any B m d ys v3 Hy.out).mono ?_
  rintro e v4 ⟨⟨A9, N9, c9, rfl, hc9, hN9, hp_⟩, hb_⟩
  replace HB := Lib.hid (HB.out.trans (hb_.mono HB.out.size))
  replace HW := Lib.hid (HW.out.below hb_ HW.out.lt)
  replace HWq := Lib.hid (HWq.out.below hb_ HWq.out.lt)
  replace Hy := Lib.hid (Hy.out.below hb_)
  replace Hr := Lib.hid (Hr.out.below hb_)
  replace Hn8 := Lib.hid (Hn8.out.below hb_)
  replace HBX8 := Lib.hid (HBX8.out.below hb_ HBX8.out.lt)
  clear hb_
  clear c0
  obtain ⟨Q, hQ⟩ : ∃ q, q = (ys.take 64).map madeP := ⟨_, rfl⟩
  rw [← hQ] at hp_
  have HQok := Lib.hid (show ∀ x ∈ Q, okP x from fun x hx => (made_ok ys 64 x (hQ ▸ hx)).1)
  have HQv := Lib.hid (show ∀ x ∈ Q, validP x = true from fun x hx => (made_ok ys 64 x (hQ ▸ hx)).2)
  obtain rfl : Q.length = N9 := hp_.len
  have Hn9 := Lib.hid hp_
  clear hp_ hQ
  clear Hy
  clear HW
  go_upto_region 4 with (refine wpList_field rfl 30 (.tmp 36) 0 rfl _ _ rfl (field30 A9 Q.length c9 _) ?_)
  have cq0 : v4.cell? ⟨w.heap.size + 1, 0, none⟩ = some (.int .i16 q0) := (HWq.out.cell 0).trans rfl
  obtain ⟨I, hI⟩ : ∃ q, q = q0.tmod 70 := ⟨_, rfl⟩
  have hIt : q0.tmod 70 = I := hI.symm
  have hw0 : IntKind.i64.wrap q0 = q0 := by rw [IntKind.wrap_i64]; omega
  have hwt : IntKind.i64.wrap I = I := by
    have := Int.tmod_lt_of_pos q0 (show (0 : Int) < 70 by omega)
    have h2 : -70 < I := by rw [hI]; have := Int.lt_tmod_of_pos q0 (show (0 : Int) < 70 by omega); omega
    rw [IntKind.wrap_i64]; omega
  clear hI
  go_upto_region 5 with fail
  clear cq0 hIt hw0 hwt
  have cq1 : v4.cell? ⟨w.heap.size + 1, 1, none⟩ = some (.int .i16 q1) := (HWq.out.cell 1).trans rfl
  have cq2 : v4.cell? ⟨w.heap.size + 1, 2, none⟩ = some (.int .i16 q2) := (HWq.out.cell 2).trans rfl
  have cq3 : v4.cell? ⟨w.heap.size + 1, 3, none⟩ = some (.int .i16 q3) := (HWq.out.cell 3).trans rfl
  obtain ⟨J, hJ⟩ : ∃ q, q = q1.tmod 70 := ⟨_, rfl⟩
  have hJt : q1.tmod 70 = J := hJ.symm
  have hw1 : IntKind.i64.wrap q1 = q1 := by rw [IntKind.wrap_i64]; omega
  have hw2 : IntKind.i64.wrap q2 = q2 := by rw [IntKind.wrap_i64]; omega
  have hwt : IntKind.i64.wrap J = J := by
    have := Int.tmod_lt_of_pos q1 (show (0 : Int) < 70 by omega)
    have h2 : -70 < J := by rw [hJ]; have := Int.lt_tmod_of_pos q1 (show (0 : Int) < 70 by omega); omega
    rw [IntKind.wrap_i64]; omega
  clear hJ
  obtain ⟨Y, hYe⟩ : ∃ q : Nat, (q : Int) = q3 % 256 := ⟨(q3 % 256).toNat, by omega⟩
  have hY : Y < 256 := by omega
  have hw3 : IntKind.u8.wrap q3 = (Y : Int) := by rw [IntKind.wrap_u8]; omega
  clear hYe
  go_upto_region 6 with (first | (refine wpList_alloc0 rfl 33 rfl #[.int .i64 0, .int .i64 0, .int .u8 0] _ iC hiC hzC rfl ?_; simp only [Act.put, List.setIfInBounds_toArray, List.set_cons_succ, List.set_cons_zero]; try simp only [World.size_alloc]) | (refine wpList_store_row rfl 33 (.tmp 11) (.tmp 52) rfl v4.heap.size #[.int .i64 J, .int .i64 q2, .int .u8 (Y : Int)] rfl rfl 33 _ (Blk.new v4 _ _) (sizeCH _ rfl) rfl (chg_one _ _ _) ?_; rw [alloc_setRow]) | (refine wpList_buildN rfl 33 _ rfl [(0, .int .i64 J), (1, .int .i64 q2), (2, .int .u8 (Y : Int))] rfl _ (builtCH J q2 Y) ?_))
  obtain ⟨X11, hX11⟩ : ∃ q, q = v4.heap.size := ⟨_, rfl⟩
  obtain ⟨v5, hv5⟩ : ∃ q, q = v4.alloc (.cells #[.int .i64 J, .int .i64 q2, .int .u8 (Y : Int)] 33) := ⟨_, rfl⟩
  have hb_ : Below v4.heap.size v4 v5 := by rw [hv5]; exact (Below.refl _ _).alloc (Nat.le_refl _) _
  have HBX11 := Lib.hid (show Blk v5 X11 33 #[.int .i64 J, .int .i64 q2, .int .u8 (Y : Int)] by rw [hv5, hX11]; exact Blk.new _ _ _)
  have hlX11 : w.heap.size ≤ X11 := by have := HB.out.size; omega
  rw [← hv5, ← hX11]
  have hoX8X11 : X8 < X11 := by have := HBX8.out.lt; omega
  replace HB := Lib.hid (HB.out.trans (hb_.mono HB.out.size))
  replace HWq := Lib.hid (HWq.out.below hb_ HWq.out.lt)
  replace Hr := Lib.hid (Hr.out.below hb_)
  replace Hn8 := Lib.hid (Hn8.out.below hb_)
  replace HBX8 := Lib.hid (HBX8.out.below hb_ HBX8.out.lt)
  replace Hn9 := Lib.hid (Hn9.out.below hb_)
  clear hb_ hv5 hX11
  clear cq1 cq2 cq3 hJt hw1 hw2 hw3 hwt
  clear HWq
  obtain ⟨p, E, e0, hTk⟩ : ∃ p E e, takeP P I = (p, E, e) := ⟨_, _, _, rfl⟩
  have hTo := takeP_ok (i := I) HPok.out
  rw [hTk] at hTo
  have Hto := Lib.hid hTo
  have hEl : E.length ≤ 64 := by have := hTo.2.2; dsimp only at this; omega
  have HTk := Lib.hid hTk
  clear hTk hTo
  have Hk := Lib.hid (Blk.range HBX8.out)
  go_upto_region 7 with (refine wpList_load_mid rfl 30 (.tmp 8) rfl X8 0 rfl [.slice A8 P.length c8] d30 Hk.out hd30 hrow30 (by skip; kernel_rfl) ?_)
  clear Hk
  refine (Take0_any A8 P.length c8 P I p E e0 v5 Hn8.out hc8 (by omega) HTk.out).mono ?_
  rintro e v6 ⟨⟨pv12, A13, N13, c13, rfl, hc13, hp_, hq_⟩, hb_⟩
  replace HB := Lib.hid (HB.out.trans (hb_.mono HB.out.size))
  replace Hr := Lib.hid (Hr.out.below hb_)
  replace Hn8 := Lib.hid (Hn8.out.below hb_)
  replace HBX8 := Lib.hid (HBX8.out.below hb_ HBX8.out.lt)
  replace Hn9 := Lib.hid (Hn9.out.below hb_)
  replace HBX11 := Lib.hid (HBX11.out.below hb_ HBX11.out.lt)
  clear hb_
  have Hp12 := Lib.hid hp_
  obtain rfl : E.length = N13 := hq_.len
  have Hn13 := Lib.hid hq_
  clear hp_ hq_
  obtain ⟨v7a, hv7a⟩ : ∃ v, v = ((v6.alloc (.cells (pvC pv0).toArray 39)).alloc (.cells #[.slice none 0 0] 30)) := ⟨_, rfl⟩
  obtain ⟨X12, hX12⟩ : ∃ v, v = v6.heap.size := ⟨_, rfl⟩
  have hNX12 : Blk (v6.alloc (.cells (pvC pv0).toArray 39)) X12 39 (pvC pv0).toArray := by
    have := Blk.new v6 39 (pvC pv0).toArray
    skip
    rw [hX12]; exact this
  replace hNX12 := hNX12.alloc (.cells #[.slice none 0 0] 30)
  rw [← hv7a] at hNX12
  obtain ⟨X13, hX13⟩ : ∃ v, v = v6.heap.size + 1 := ⟨_, rfl⟩
  have hNX13 : Blk ((v6.alloc (.cells (pvC pv0).toArray 39)).alloc (.cells #[.slice none 0 0] 30)) X13 30 #[.slice none 0 0] := by
    have := Blk.new (v6.alloc (.cells (pvC pv0).toArray 39)) 30 #[.slice none 0 0]
    rw [World.size_alloc] at this
    rw [hX13]; exact this
  rw [← hv7a] at hNX13
  have hbA : Below v6.heap.size v6 v7a := by
    rw [hv7a]; exact ((Below.refl _ _).alloc (by simp) _).alloc (by simp) _
  have HNX12 := Lib.hid hNX12
  have hkX12 := (KeptIn.refl (fun b => b ≠ X12) v7a).setRow (g := X12) (fun h => h rfl) (pvC pv12).toArray
  replace hNX13 := hNX13.keptIn hkX12 (show X13 ≠ X12 by omega)
  replace hNX12 : Blk (v7a.setRow X12 (pvC pv12).toArray) X12 39 (pvC pv12).toArray := setRow_heap _ _ _ _ _ _ HNX12.out
  have HNX13 := Lib.hid hNX13
  have hkX13 := (KeptIn.refl (fun b => b ≠ X13) (v7a.setRow X12 (pvC pv12).toArray)).setRow (g := X13) (fun h => h rfl) #[.slice A13 E.length c13]
  replace hNX12 := hNX12.keptIn hkX13 (show X12 ≠ X13 by omega)
  replace hNX13 : Blk ((v7a.setRow X12 (pvC pv12).toArray).setRow X13 #[.slice A13 E.length c13]) X13 30 #[.slice A13 E.length c13] := setRow_heap _ _ _ _ _ _ HNX13.out
  obtain ⟨v7, hv7⟩ : ∃ v, v = ((v7a.setRow X12 (pvC pv12).toArray).setRow X13 #[.slice A13 E.length c13]) := ⟨_, rfl⟩
  have hbB : Below v6.heap.size v6 v7 := by rw [hv7]; exact (Below.setRow (Below.setRow hbA (show v6.heap.size ≤ X12 by omega) _) (show v6.heap.size ≤ X13 by omega) _)
  rw [← hv7] at hNX12
  have HBX12 := Lib.hid hNX12
  rw [← hv7] at hNX13
  have HBX13 := Lib.hid hNX13
  have Hv7a := Lib.hid hv7a
  have Hv7 := Lib.hid hv7
  have HEX12 := Lib.hid hX12
  have HEX13 := Lib.hid hX13
  clear hNX12 hkX12 hNX13 hkX13 hv7a hv7 hbA
  have hlX12 : w.heap.size ≤ X12 := by have := HB.out.size; omega
  have hoX8X12 : X8 < X12 := by have := HBX8.out.lt; omega
  have hoX11X12 : X11 < X12 := by have := HBX11.out.lt; omega
  have hlX13 : w.heap.size ≤ X13 := by have := HB.out.size; omega
  have hoX8X13 : X8 < X13 := by have := HBX8.out.lt; omega
  have hoX11X13 : X11 < X13 := by have := HBX11.out.lt; omega
  clear hX12 hX13
  go_upto_region 7 with (first | (refine wpList_alloc0 rfl 39 rfl (pvC pv0).toArray _ i39 hi39 hz39 rfl ?_; simp only [Act.put, List.setIfInBounds_toArray, List.set_cons_succ, List.set_cons_zero]; try simp only [World.size_alloc]) | (refine wpList_alloc0 rfl 30 rfl #[.slice none 0 0] _ i30 hi30 hz30 rfl ?_; simp only [Act.put, List.setIfInBounds_toArray, List.set_cons_succ, List.set_cons_zero]; try simp only [World.size_alloc]) | (rw [← Hv7a.out, ← HEX13.out, ← HEX12.out]; refine wpList_store_row rfl 39 (.tmp 12) (.tmp 57) rfl X12 (pvC pv12).toArray rfl rfl 39 _ HNX12.out (size39 _ rfl) rfl (pv_row_one _) ?_) | (refine wpList_store_row rfl 30 (.tmp 13) (.tmp 58) rfl X13 #[.slice A13 E.length c13] rfl rfl 30 _ HNX13.out (size30 _ rfl) rfl (net_one _ _ _) ?_; rw [← Hv7.out]))
  replace HB := Lib.hid (HB.out.trans (hbB.mono HB.out.size))
  replace Hr := Lib.hid (Hr.out.below hbB)
  replace Hn8 := Lib.hid (Hn8.out.below hbB)
  replace HBX8 := Lib.hid (HBX8.out.below hbB HBX8.out.lt)
  replace Hn9 := Lib.hid (Hn9.out.below hbB)
  replace HBX11 := Lib.hid (HBX11.out.below hbB HBX11.out.lt)
  replace Hp12 := Lib.hid (Hp12.out.below hbB)
  replace Hn13 := Lib.hid (Hn13.out.below hbB)
  clear hbB
  clear HNX12 HEX12 HNX13 HEX13 Hv7a Hv7
  have Hk := Lib.hid (Blk.range HBX8.out)
  go_upto_region 8 with (refine wpList_load_mid rfl 30 (.tmp 8) rfl X8 0 rfl [.slice A8 P.length c8] d30 Hk.out hd30 hrow30 (by skip; kernel_rfl) ?_)
  clear Hk
  refine (RTake0_any A8 P.length c8 P I p E e0 v7 Hn8.out hc8 (by omega) HTk.out).mono ?_
  rintro e v8 ⟨⟨pv15, A16, N16, c16, rfl, hc16, hp_, hq_⟩, hb_⟩
  replace HB := Lib.hid (HB.out.trans (hb_.mono HB.out.size))
  replace Hr := Lib.hid (Hr.out.below hb_)
  replace Hn8 := Lib.hid (Hn8.out.below hb_)
  replace HBX8 := Lib.hid (HBX8.out.below hb_ HBX8.out.lt)
  replace Hn9 := Lib.hid (Hn9.out.below hb_)
  replace HBX11 := Lib.hid (HBX11.out.below hb_ HBX11.out.lt)
  replace Hp12 := Lib.hid (Hp12.out.below hb_)
  replace Hn13 := Lib.hid (Hn13.out.below hb_)
  replace HBX12 := Lib.hid (HBX12.out.below hb_ HBX12.out.lt)
  replace HBX13 := Lib.hid (HBX13.out.below hb_ HBX13.out.lt)
  clear hb_
  have Hp15 := Lib.hid hp_
  obtain rfl : E.length = N16 := hq_.len
  have Hn16 := Lib.hid hq_
  clear hp_ hq_
  obtain ⟨v9a, hv9a⟩ : ∃ v, v = ((v8.alloc (.cells (pvC pv0).toArray 39)).alloc (.cells #[.slice none 0 0] 30)) := ⟨_, rfl⟩
  obtain ⟨X15, hX15⟩ : ∃ v, v = v8.heap.size := ⟨_, rfl⟩
  have hNX15 : Blk (v8.alloc (.cells (pvC pv0).toArray 39)) X15 39 (pvC pv0).toArray := by
    have := Blk.new v8 39 (pvC pv0).toArray
    skip
    rw [hX15]; exact this
  replace hNX15 := hNX15.alloc (.cells #[.slice none 0 0] 30)
  rw [← hv9a] at hNX15
  obtain ⟨X16, hX16⟩ : ∃ v, v = v8.heap.size + 1 := ⟨_, rfl⟩
  have hNX16 : Blk ((v8.alloc (.cells (pvC pv0).toArray 39)).alloc (.cells #[.slice none 0 0] 30)) X16 30 #[.slice none 0 0] := by
    have := Blk.new (v8.alloc (.cells (pvC pv0).toArray 39)) 30 #[.slice none 0 0]
    rw [World.size_alloc] at this
    rw [hX16]; exact this
  rw [← hv9a] at hNX16
  have hbA : Below v8.heap.size v8 v9a := by
    rw [hv9a]; exact ((Below.refl _ _).alloc (by simp) _).alloc (by simp) _
  have HNX15 := Lib.hid hNX15
  have hkX15 := (KeptIn.refl (fun b => b ≠ X15) v9a).setRow (g := X15) (fun h => h rfl) (pvC pv15).toArray
  replace hNX16 := hNX16.keptIn hkX15 (show X16 ≠ X15 by omega)
  replace hNX15 : Blk (v9a.setRow X15 (pvC pv15).toArray) X15 39 (pvC pv15).toArray := setRow_heap _ _ _ _ _ _ HNX15.out
  have HNX16 := Lib.hid hNX16
  have hkX16 := (KeptIn.refl (fun b => b ≠ X16) (v9a.setRow X15 (pvC pv15).toArray)).setRow (g := X16) (fun h => h rfl) #[.slice A16 E.length c16]
  replace hNX15 := hNX15.keptIn hkX16 (show X15 ≠ X16 by omega)
  replace hNX16 : Blk ((v9a.setRow X15 (pvC pv15).toArray).setRow X16 #[.slice A16 E.length c16]) X16 30 #[.slice A16 E.length c16] := setRow_heap _ _ _ _ _ _ HNX16.out
  obtain ⟨v9, hv9⟩ : ∃ v, v = ((v9a.setRow X15 (pvC pv15).toArray).setRow X16 #[.slice A16 E.length c16]) := ⟨_, rfl⟩
  have hbB : Below v8.heap.size v8 v9 := by rw [hv9]; exact (Below.setRow (Below.setRow hbA (show v8.heap.size ≤ X15 by omega) _) (show v8.heap.size ≤ X16 by omega) _)
  rw [← hv9] at hNX15
  have HBX15 := Lib.hid hNX15
  rw [← hv9] at hNX16
  have HBX16 := Lib.hid hNX16
  have Hv9a := Lib.hid hv9a
  have Hv9 := Lib.hid hv9
  have HEX15 := Lib.hid hX15
  have HEX16 := Lib.hid hX16
  clear hNX15 hkX15 hNX16 hkX16 hv9a hv9 hbA
  have hlX15 : w.heap.size ≤ X15 := by have := HB.out.size; omega
  have hoX8X15 : X8 < X15 := by have := HBX8.out.lt; omega
  have hoX11X15 : X11 < X15 := by have := HBX11.out.lt; omega
  have hoX12X15 : X12 < X15 := by have := HBX12.out.lt; omega
  have hoX13X15 : X13 < X15 := by have := HBX13.out.lt; omega
  have hlX16 : w.heap.size ≤ X16 := by have := HB.out.size; omega
  have hoX8X16 : X8 < X16 := by have := HBX8.out.lt; omega
  have hoX11X16 : X11 < X16 := by have := HBX11.out.lt; omega
  have hoX12X16 : X12 < X16 := by have := HBX12.out.lt; omega
  have hoX13X16 : X13 < X16 := by have := HBX13.out.lt; omega
  clear hX15 hX16
  go_upto_region 8 with (first | (refine wpList_alloc0 rfl 39 rfl (pvC pv0).toArray _ i39 hi39 hz39 rfl ?_; simp only [Act.put, List.setIfInBounds_toArray, List.set_cons_succ, List.set_cons_zero]; try simp only [World.size_alloc]) | (refine wpList_alloc0 rfl 30 rfl #[.slice none 0 0] _ i30 hi30 hz30 rfl ?_; simp only [Act.put, List.setIfInBounds_toArray, List.set_cons_succ, List.set_cons_zero]; try simp only [World.size_alloc]) | (rw [← Hv9a.out, ← HEX16.out, ← HEX15.out]; refine wpList_store_row rfl 39 (.tmp 15) (.tmp 64) rfl X15 (pvC pv15).toArray rfl rfl 39 _ HNX15.out (size39 _ rfl) rfl (pv_row_one _) ?_) | (refine wpList_store_row rfl 30 (.tmp 16) (.tmp 65) rfl X16 #[.slice A16 E.length c16] rfl rfl 30 _ HNX16.out (size30 _ rfl) rfl (net_one _ _ _) ?_; rw [← Hv9.out]))
  replace HB := Lib.hid (HB.out.trans (hbB.mono HB.out.size))
  replace Hr := Lib.hid (Hr.out.below hbB)
  replace Hn8 := Lib.hid (Hn8.out.below hbB)
  replace HBX8 := Lib.hid (HBX8.out.below hbB HBX8.out.lt)
  replace Hn9 := Lib.hid (Hn9.out.below hbB)
  replace HBX11 := Lib.hid (HBX11.out.below hbB HBX11.out.lt)
  replace Hp12 := Lib.hid (Hp12.out.below hbB)
  replace Hn13 := Lib.hid (Hn13.out.below hbB)
  replace HBX12 := Lib.hid (HBX12.out.below hbB HBX12.out.lt)
  replace HBX13 := Lib.hid (HBX13.out.below hbB HBX13.out.lt)
  replace Hp15 := Lib.hid (Hp15.out.below hbB)
  replace Hn16 := Lib.hid (Hn16.out.below hbB)
  clear hbB
  clear HNX15 HEX15 HNX16 HEX16 Hv9a Hv9
  obtain ⟨D, e1, hDb⟩ : ∃ D e, doubleP P I = (D, e) := ⟨_, _, rfl⟩
  have hDo := doubleP_ok (i := I) HPok.out
  rw [hDb] at hDo
  have Hdo := Lib.hid hDo.1
  have hDl : D.length ≤ 65 := by have := hDo.2; dsimp only at this; omega
  have HDb := Lib.hid hDb
  clear hDb hDo
  have Hk := Lib.hid (Blk.range HBX8.out)
  go_upto_region 9 with (refine wpList_load_mid rfl 30 (.tmp 8) rfl X8 0 rfl [.slice A8 P.length c8] d30 Hk.out hd30 hrow30 (by skip; kernel_rfl) ?_)
  clear Hk
  refine (Double0_any A8 P.length c8 P I D e1 v9 Hn8.out hc8 (by omega) HDb.out).mono ?_
  rintro e v10 ⟨⟨A18, N18, c18, rfl, hc18, hp_⟩, hb_⟩
  replace HB := Lib.hid (HB.out.trans (hb_.mono HB.out.size))
  replace Hr := Lib.hid (Hr.out.below hb_)
  replace Hn8 := Lib.hid (Hn8.out.below hb_)
  replace HBX8 := Lib.hid (HBX8.out.below hb_ HBX8.out.lt)
  replace Hn9 := Lib.hid (Hn9.out.below hb_)
  replace HBX11 := Lib.hid (HBX11.out.below hb_ HBX11.out.lt)
  replace Hp12 := Lib.hid (Hp12.out.below hb_)
  replace Hn13 := Lib.hid (Hn13.out.below hb_)
  replace HBX12 := Lib.hid (HBX12.out.below hb_ HBX12.out.lt)
  replace HBX13 := Lib.hid (HBX13.out.below hb_ HBX13.out.lt)
  replace Hp15 := Lib.hid (Hp15.out.below hb_)
  replace Hn16 := Lib.hid (Hn16.out.below hb_)
  replace HBX15 := Lib.hid (HBX15.out.below hb_ HBX15.out.lt)
  replace HBX16 := Lib.hid (HBX16.out.below hb_ HBX16.out.lt)
  clear hb_
  obtain rfl : D.length = N18 := hp_.len
  have Hn18 := Lib.hid hp_
  clear hp_
  go_upto_region 9 with (first | (refine wpList_alloc0 rfl 30 rfl #[.slice none 0 0] _ i30 hi30 hz30 rfl ?_; simp only [Act.put, List.setIfInBounds_toArray, List.set_cons_succ, List.set_cons_zero]; try simp only [World.size_alloc]) | (refine wpList_store_row rfl 30 (.tmp 18) (.tmp 71) rfl v10.heap.size #[.slice A18 D.length c18] rfl rfl 30 _ (Blk.new v10 _ _) (size30 _ rfl) rfl (net_one _ _ _) ?_; rw [alloc_setRow]))
  obtain ⟨X18, hX18⟩ : ∃ q, q = v10.heap.size := ⟨_, rfl⟩
  obtain ⟨v11, hv11⟩ : ∃ q, q = v10.alloc (.cells #[.slice A18 D.length c18] 30) := ⟨_, rfl⟩
  have hb_ : Below v10.heap.size v10 v11 := by rw [hv11]; exact (Below.refl _ _).alloc (Nat.le_refl _) _
  have HBX18 := Lib.hid (show Blk v11 X18 30 #[.slice A18 D.length c18] by rw [hv11, hX18]; exact Blk.new _ _ _)
  have hlX18 : w.heap.size ≤ X18 := by have := HB.out.size; omega
  rw [← hv11, ← hX18]
  have hoX8X18 : X8 < X18 := by have := HBX8.out.lt; omega
  have hoX11X18 : X11 < X18 := by have := HBX11.out.lt; omega
  have hoX12X18 : X12 < X18 := by have := HBX12.out.lt; omega
  have hoX13X18 : X13 < X18 := by have := HBX13.out.lt; omega
  have hoX15X18 : X15 < X18 := by have := HBX15.out.lt; omega
  have hoX16X18 : X16 < X18 := by have := HBX16.out.lt; omega
  replace HB := Lib.hid (HB.out.trans (hb_.mono HB.out.size))
  replace Hr := Lib.hid (Hr.out.below hb_)
  replace Hn8 := Lib.hid (Hn8.out.below hb_)
  replace HBX8 := Lib.hid (HBX8.out.below hb_ HBX8.out.lt)
  replace Hn9 := Lib.hid (Hn9.out.below hb_)
  replace HBX11 := Lib.hid (HBX11.out.below hb_ HBX11.out.lt)
  replace Hp12 := Lib.hid (Hp12.out.below hb_)
  replace Hn13 := Lib.hid (Hn13.out.below hb_)
  replace HBX12 := Lib.hid (HBX12.out.below hb_ HBX12.out.lt)
  replace HBX13 := Lib.hid (HBX13.out.below hb_ HBX13.out.lt)
  replace Hp15 := Lib.hid (Hp15.out.below hb_)
  replace Hn16 := Lib.hid (Hn16.out.below hb_)
  replace HBX15 := Lib.hid (HBX15.out.below hb_ HBX15.out.lt)
  replace HBX16 := Lib.hid (HBX16.out.below hb_ HBX16.out.lt)
  replace Hn18 := Lib.hid (Hn18.out.below hb_)
  clear hb_ hv11 hX18
  have Hk := Lib.hid (Blk.range HBX8.out)
  go_upto_region 10 with (refine wpList_load_mid rfl 30 (.tmp 8) rfl X8 0 rfl [.slice A8 P.length c8] d30 Hk.out hd30 hrow30 (by skip; kernel_rfl) ?_)
  clear Hk
  refine (RDouble0_any A8 P.length c8 P I D e1 v11 Hn8.out hc8 (by omega) HDb.out).mono ?_
  rintro e v12 ⟨⟨A20, N20, c20, rfl, hc20, hp_⟩, hb_⟩
  replace HB := Lib.hid (HB.out.trans (hb_.mono HB.out.size))
  replace Hr := Lib.hid (Hr.out.below hb_)
  replace Hn8 := Lib.hid (Hn8.out.below hb_)
  replace HBX8 := Lib.hid (HBX8.out.below hb_ HBX8.out.lt)
  replace Hn9 := Lib.hid (Hn9.out.below hb_)
  replace HBX11 := Lib.hid (HBX11.out.below hb_ HBX11.out.lt)
  replace Hp12 := Lib.hid (Hp12.out.below hb_)
  replace Hn13 := Lib.hid (Hn13.out.below hb_)
  replace HBX12 := Lib.hid (HBX12.out.below hb_ HBX12.out.lt)
  replace HBX13 := Lib.hid (HBX13.out.below hb_ HBX13.out.lt)
  replace Hp15 := Lib.hid (Hp15.out.below hb_)
  replace Hn16 := Lib.hid (Hn16.out.below hb_)
  replace HBX15 := Lib.hid (HBX15.out.below hb_ HBX15.out.lt)
  replace HBX16 := Lib.hid (HBX16.out.below hb_ HBX16.out.lt)
  replace Hn18 := Lib.hid (Hn18.out.below hb_)
  replace HBX18 := Lib.hid (HBX18.out.below hb_ HBX18.out.lt)
  clear hb_
  obtain rfl : D.length = N20 := hp_.len
  have Hn20 := Lib.hid hp_
  clear hp_
  go_upto_region 10 with (first | (refine wpList_alloc0 rfl 30 rfl #[.slice none 0 0] _ i30 hi30 hz30 rfl ?_; simp only [Act.put, List.setIfInBounds_toArray, List.set_cons_succ, List.set_cons_zero]; try simp only [World.size_alloc]) | (refine wpList_store_row rfl 30 (.tmp 20) (.tmp 77) rfl v12.heap.size #[.slice A20 D.length c20] rfl rfl 30 _ (Blk.new v12 _ _) (size30 _ rfl) rfl (net_one _ _ _) ?_; rw [alloc_setRow]))
  obtain ⟨X20, hX20⟩ : ∃ q, q = v12.heap.size := ⟨_, rfl⟩
  obtain ⟨v13, hv13⟩ : ∃ q, q = v12.alloc (.cells #[.slice A20 D.length c20] 30) := ⟨_, rfl⟩
  have hb_ : Below v12.heap.size v12 v13 := by rw [hv13]; exact (Below.refl _ _).alloc (Nat.le_refl _) _
  have HBX20 := Lib.hid (show Blk v13 X20 30 #[.slice A20 D.length c20] by rw [hv13, hX20]; exact Blk.new _ _ _)
  have hlX20 : w.heap.size ≤ X20 := by have := HB.out.size; omega
  rw [← hv13, ← hX20]
  have hoX8X20 : X8 < X20 := by have := HBX8.out.lt; omega
  have hoX11X20 : X11 < X20 := by have := HBX11.out.lt; omega
  have hoX12X20 : X12 < X20 := by have := HBX12.out.lt; omega
  have hoX13X20 : X13 < X20 := by have := HBX13.out.lt; omega
  have hoX15X20 : X15 < X20 := by have := HBX15.out.lt; omega
  have hoX16X20 : X16 < X20 := by have := HBX16.out.lt; omega
  have hoX18X20 : X18 < X20 := by have := HBX18.out.lt; omega
  replace HB := Lib.hid (HB.out.trans (hb_.mono HB.out.size))
  replace Hr := Lib.hid (Hr.out.below hb_)
  replace Hn8 := Lib.hid (Hn8.out.below hb_)
  replace HBX8 := Lib.hid (HBX8.out.below hb_ HBX8.out.lt)
  replace Hn9 := Lib.hid (Hn9.out.below hb_)
  replace HBX11 := Lib.hid (HBX11.out.below hb_ HBX11.out.lt)
  replace Hp12 := Lib.hid (Hp12.out.below hb_)
  replace Hn13 := Lib.hid (Hn13.out.below hb_)
  replace HBX12 := Lib.hid (HBX12.out.below hb_ HBX12.out.lt)
  replace HBX13 := Lib.hid (HBX13.out.below hb_ HBX13.out.lt)
  replace Hp15 := Lib.hid (Hp15.out.below hb_)
  replace Hn16 := Lib.hid (Hn16.out.below hb_)
  replace HBX15 := Lib.hid (HBX15.out.below hb_ HBX15.out.lt)
  replace HBX16 := Lib.hid (HBX16.out.below hb_ HBX16.out.lt)
  replace Hn18 := Lib.hid (Hn18.out.below hb_)
  replace HBX18 := Lib.hid (HBX18.out.below hb_ HBX18.out.lt)
  replace Hn20 := Lib.hid (Hn20.out.below hb_)
  clear hb_ hv13 hX20
  obtain ⟨G, e2, hFg⟩ : ∃ G e, forgeP P J q2 (UInt8.ofNat Y) = (G, e) := ⟨_, _, rfl⟩
  have hFo := forgeP_ok (i := J) (a := q2) (y := UInt8.ofNat Y) HPv.out
  rw [hFg] at hFo
  have Hfo := Lib.hid hFo.1
  have hGl : G.length ≤ 64 := by have := hFo.2; dsimp only at this; omega
  have HFg := Lib.hid hFg
  clear hFg hFo
  have cx0 : v13.cell? ⟨X11, 0, none⟩ = some (.int .i64 J) := (HBX11.out.cell 0).trans rfl
  have cx1 : v13.cell? ⟨X11, 1, none⟩ = some (.int .i64 q2) := (HBX11.out.cell 1).trans rfl
  have cx2 : v13.cell? ⟨X11, 2, none⟩ = some (.int .u8 (Y : Int)) := (HBX11.out.cell 2).trans rfl
  have Hk := Lib.hid (Blk.range HBX8.out)
  go_upto_region 11 with (refine wpList_load_mid rfl 30 (.tmp 8) rfl X8 0 rfl [.slice A8 P.length c8] d30 Hk.out hd30 hrow30 (by skip; kernel_rfl) ?_)
  clear Hk
  clear cx0 cx1 cx2
  refine (Forge0_any A8 P.length c8 P J q2 Y G e2 v13 Hn8.out hc8 (by omega) HPv.out ⟨hY, HFg.out⟩).mono ?_
  rintro e v14 ⟨⟨A22, N22, c22, rfl, hc22, hp_⟩, hb_⟩
  replace HB := Lib.hid (HB.out.trans (hb_.mono HB.out.size))
  replace Hr := Lib.hid (Hr.out.below hb_)
  replace Hn8 := Lib.hid (Hn8.out.below hb_)
  replace HBX8 := Lib.hid (HBX8.out.below hb_ HBX8.out.lt)
  replace Hn9 := Lib.hid (Hn9.out.below hb_)
  replace HBX11 := Lib.hid (HBX11.out.below hb_ HBX11.out.lt)
  replace Hp12 := Lib.hid (Hp12.out.below hb_)
  replace Hn13 := Lib.hid (Hn13.out.below hb_)
  replace HBX12 := Lib.hid (HBX12.out.below hb_ HBX12.out.lt)
  replace HBX13 := Lib.hid (HBX13.out.below hb_ HBX13.out.lt)
  replace Hp15 := Lib.hid (Hp15.out.below hb_)
  replace Hn16 := Lib.hid (Hn16.out.below hb_)
  replace HBX15 := Lib.hid (HBX15.out.below hb_ HBX15.out.lt)
  replace HBX16 := Lib.hid (HBX16.out.below hb_ HBX16.out.lt)
  replace Hn18 := Lib.hid (Hn18.out.below hb_)
  replace HBX18 := Lib.hid (HBX18.out.below hb_ HBX18.out.lt)
  replace Hn20 := Lib.hid (Hn20.out.below hb_)
  replace HBX20 := Lib.hid (HBX20.out.below hb_ HBX20.out.lt)
  clear hb_
  obtain rfl : G.length = N22 := hp_.len
  have Hn22 := Lib.hid hp_
  clear hp_
  go_upto_region 11 with (first | (refine wpList_alloc0 rfl 30 rfl #[.slice none 0 0] _ i30 hi30 hz30 rfl ?_; simp only [Act.put, List.setIfInBounds_toArray, List.set_cons_succ, List.set_cons_zero]; try simp only [World.size_alloc]) | (refine wpList_store_row rfl 30 (.tmp 22) (.tmp 88) rfl v14.heap.size #[.slice A22 G.length c22] rfl rfl 30 _ (Blk.new v14 _ _) (size30 _ rfl) rfl (net_one _ _ _) ?_; rw [alloc_setRow]))
  obtain ⟨X22, hX22⟩ : ∃ q, q = v14.heap.size := ⟨_, rfl⟩
  obtain ⟨v15, hv15⟩ : ∃ q, q = v14.alloc (.cells #[.slice A22 G.length c22] 30) := ⟨_, rfl⟩
  have hb_ : Below v14.heap.size v14 v15 := by rw [hv15]; exact (Below.refl _ _).alloc (Nat.le_refl _) _
  have HBX22 := Lib.hid (show Blk v15 X22 30 #[.slice A22 G.length c22] by rw [hv15, hX22]; exact Blk.new _ _ _)
  have hlX22 : w.heap.size ≤ X22 := by have := HB.out.size; omega
  rw [← hv15, ← hX22]
  have hoX8X22 : X8 < X22 := by have := HBX8.out.lt; omega
  have hoX11X22 : X11 < X22 := by have := HBX11.out.lt; omega
  have hoX12X22 : X12 < X22 := by have := HBX12.out.lt; omega
  have hoX13X22 : X13 < X22 := by have := HBX13.out.lt; omega
  have hoX15X22 : X15 < X22 := by have := HBX15.out.lt; omega
  have hoX16X22 : X16 < X22 := by have := HBX16.out.lt; omega
  have hoX18X22 : X18 < X22 := by have := HBX18.out.lt; omega
  have hoX20X22 : X20 < X22 := by have := HBX20.out.lt; omega
  replace HB := Lib.hid (HB.out.trans (hb_.mono HB.out.size))
  replace Hr := Lib.hid (Hr.out.below hb_)
  replace Hn8 := Lib.hid (Hn8.out.below hb_)
  replace HBX8 := Lib.hid (HBX8.out.below hb_ HBX8.out.lt)
  replace Hn9 := Lib.hid (Hn9.out.below hb_)
  replace HBX11 := Lib.hid (HBX11.out.below hb_ HBX11.out.lt)
  replace Hp12 := Lib.hid (Hp12.out.below hb_)
  replace Hn13 := Lib.hid (Hn13.out.below hb_)
  replace HBX12 := Lib.hid (HBX12.out.below hb_ HBX12.out.lt)
  replace HBX13 := Lib.hid (HBX13.out.below hb_ HBX13.out.lt)
  replace Hp15 := Lib.hid (Hp15.out.below hb_)
  replace Hn16 := Lib.hid (Hn16.out.below hb_)
  replace HBX15 := Lib.hid (HBX15.out.below hb_ HBX15.out.lt)
  replace HBX16 := Lib.hid (HBX16.out.below hb_ HBX16.out.lt)
  replace Hn18 := Lib.hid (Hn18.out.below hb_)
  replace HBX18 := Lib.hid (HBX18.out.below hb_ HBX18.out.lt)
  replace Hn20 := Lib.hid (Hn20.out.below hb_)
  replace HBX20 := Lib.hid (HBX20.out.below hb_ HBX20.out.lt)
  replace Hn22 := Lib.hid (Hn22.out.below hb_)
  clear hb_ hv15 hX22
  have Hk := Lib.hid (Blk.range HBX8.out)
  have Hk2 := Lib.hid (Blk.range HBX11.out)
  go_upto_region 12 with (first | (refine wpList_load_mid rfl 30 (.tmp 8) rfl X8 0 rfl [.slice A8 P.length c8] d30 Hk.out hd30 hrow30 (by skip; kernel_rfl) ?_) | (refine wpList_load_mid rfl 33 (.tmp 11) rfl X11 0 rfl [.int .i64 J, .int .i64 q2, .int .u8 (Y : Int)] dC Hk2.out hdC hrowC (by skip; kernel_rfl) ?_))
  clear Hk Hk2
  refine (RForge0_any A8 P.length c8 P J q2 Y G e2 v15 Hn8.out hc8 (by omega) HPv.out ⟨hY, HFg.out⟩).mono ?_
  rintro e v16 ⟨⟨A24, N24, c24, rfl, hc24, hp_⟩, hb_⟩
  replace HB := Lib.hid (HB.out.trans (hb_.mono HB.out.size))
  replace Hr := Lib.hid (Hr.out.below hb_)
  replace Hn8 := Lib.hid (Hn8.out.below hb_)
  replace HBX8 := Lib.hid (HBX8.out.below hb_ HBX8.out.lt)
  replace Hn9 := Lib.hid (Hn9.out.below hb_)
  replace HBX11 := Lib.hid (HBX11.out.below hb_ HBX11.out.lt)
  replace Hp12 := Lib.hid (Hp12.out.below hb_)
  replace Hn13 := Lib.hid (Hn13.out.below hb_)
  replace HBX12 := Lib.hid (HBX12.out.below hb_ HBX12.out.lt)
  replace HBX13 := Lib.hid (HBX13.out.below hb_ HBX13.out.lt)
  replace Hp15 := Lib.hid (Hp15.out.below hb_)
  replace Hn16 := Lib.hid (Hn16.out.below hb_)
  replace HBX15 := Lib.hid (HBX15.out.below hb_ HBX15.out.lt)
  replace HBX16 := Lib.hid (HBX16.out.below hb_ HBX16.out.lt)
  replace Hn18 := Lib.hid (Hn18.out.below hb_)
  replace HBX18 := Lib.hid (HBX18.out.below hb_ HBX18.out.lt)
  replace Hn20 := Lib.hid (Hn20.out.below hb_)
  replace HBX20 := Lib.hid (HBX20.out.below hb_ HBX20.out.lt)
  replace Hn22 := Lib.hid (Hn22.out.below hb_)
  replace HBX22 := Lib.hid (HBX22.out.below hb_ HBX22.out.lt)
  clear hb_
  obtain rfl : G.length = N24 := hp_.len
  have Hn24 := Lib.hid hp_
  clear hp_
  go_upto_region 12 with (first | (refine wpList_alloc0 rfl 30 rfl #[.slice none 0 0] _ i30 hi30 hz30 rfl ?_; simp only [Act.put, List.setIfInBounds_toArray, List.set_cons_succ, List.set_cons_zero]; try simp only [World.size_alloc]) | (refine wpList_store_row rfl 30 (.tmp 24) (.tmp 94) rfl v16.heap.size #[.slice A24 G.length c24] rfl rfl 30 _ (Blk.new v16 _ _) (size30 _ rfl) rfl (net_one _ _ _) ?_; rw [alloc_setRow]))
  obtain ⟨X24, hX24⟩ : ∃ q, q = v16.heap.size := ⟨_, rfl⟩
  obtain ⟨v17, hv17⟩ : ∃ q, q = v16.alloc (.cells #[.slice A24 G.length c24] 30) := ⟨_, rfl⟩
  have hb_ : Below v16.heap.size v16 v17 := by rw [hv17]; exact (Below.refl _ _).alloc (Nat.le_refl _) _
  have HBX24 := Lib.hid (show Blk v17 X24 30 #[.slice A24 G.length c24] by rw [hv17, hX24]; exact Blk.new _ _ _)
  have hlX24 : w.heap.size ≤ X24 := by have := HB.out.size; omega
  rw [← hv17, ← hX24]
  have hoX8X24 : X8 < X24 := by have := HBX8.out.lt; omega
  have hoX11X24 : X11 < X24 := by have := HBX11.out.lt; omega
  have hoX12X24 : X12 < X24 := by have := HBX12.out.lt; omega
  have hoX13X24 : X13 < X24 := by have := HBX13.out.lt; omega
  have hoX15X24 : X15 < X24 := by have := HBX15.out.lt; omega
  have hoX16X24 : X16 < X24 := by have := HBX16.out.lt; omega
  have hoX18X24 : X18 < X24 := by have := HBX18.out.lt; omega
  have hoX20X24 : X20 < X24 := by have := HBX20.out.lt; omega
  have hoX22X24 : X22 < X24 := by have := HBX22.out.lt; omega
  replace HB := Lib.hid (HB.out.trans (hb_.mono HB.out.size))
  replace Hr := Lib.hid (Hr.out.below hb_)
  replace Hn8 := Lib.hid (Hn8.out.below hb_)
  replace HBX8 := Lib.hid (HBX8.out.below hb_ HBX8.out.lt)
  replace Hn9 := Lib.hid (Hn9.out.below hb_)
  replace HBX11 := Lib.hid (HBX11.out.below hb_ HBX11.out.lt)
  replace Hp12 := Lib.hid (Hp12.out.below hb_)
  replace Hn13 := Lib.hid (Hn13.out.below hb_)
  replace HBX12 := Lib.hid (HBX12.out.below hb_ HBX12.out.lt)
  replace HBX13 := Lib.hid (HBX13.out.below hb_ HBX13.out.lt)
  replace Hp15 := Lib.hid (Hp15.out.below hb_)
  replace Hn16 := Lib.hid (Hn16.out.below hb_)
  replace HBX15 := Lib.hid (HBX15.out.below hb_ HBX15.out.lt)
  replace HBX16 := Lib.hid (HBX16.out.below hb_ HBX16.out.lt)
  replace Hn18 := Lib.hid (Hn18.out.below hb_)
  replace HBX18 := Lib.hid (HBX18.out.below hb_ HBX18.out.lt)
  replace Hn20 := Lib.hid (Hn20.out.below hb_)
  replace HBX20 := Lib.hid (HBX20.out.below hb_ HBX20.out.lt)
  replace Hn22 := Lib.hid (Hn22.out.below hb_)
  replace HBX22 := Lib.hid (HBX22.out.below hb_ HBX22.out.lt)
  replace Hn24 := Lib.hid (Hn24.out.below hb_)
  clear hb_ hv17 hX24
  obtain ⟨SN, hSN⟩ : ∃ q, q = P.length + min Q.length (64 - P.length) := ⟨_, rfl⟩
  obtain ⟨SL, hSL⟩ : ∃ q, q = P ++ Q.take (64 - P.length) := ⟨_, rfl⟩
  have hSN1 : SN ≤ 100000 := by omega
  have HSo := Lib.hid (show ∀ x ∈ SL, okP x from fun x hx => by rw [hSL] at hx; rcases List.mem_append.1 hx with h | h; exact HPok.out x h; exact HQok.out x (List.mem_of_mem_take h))
  have HSN := Lib.hid hSN
  have HSL := Lib.hid hSL
  clear hSN hSL
  skip
  refine wp_region_flowF [96, 97, 98, 99, 100, 101, 102, 103, 104, 105, 106, 107, 108, 109, 110, 111, 112, 113, 114, 115, 116, 117, 118, 119, 120, 121, 122, 123, 124, 125, 126, 127, 128, 129, 130, 131, 132, 133, 134, 135, 136, 137, 138, 139, 140, 141, 142] [(Spec.is (.agg (pvC pv12).toArray), false), (Spec.is (.agg (pvC pv15).toArray), false), (Spec.is (.bool true), false), (Spec.is (.bool false), false), (Spec.is (.bool false), false), (Spec.is (.agg [.slice A13 E.length c13].toArray), false), (Spec.is (.agg [.slice A16 E.length c16].toArray), false), (Spec.is (.bool true), false), (Spec.is (.bool false), false), (Spec.is (.bool false), false), (Spec.is (.bool false), false), (Spec.is (.int .i64 e0), false), (Spec.is (.int .i64 e0), false), (Spec.is (.bool false), false), (Spec.is (.bool false), false), (Spec.is (.bool false), false), (Spec.is (.agg [.slice A18 D.length c18].toArray), false), (Spec.is (.agg [.slice A20 D.length c20].toArray), false), (Spec.is (.bool true), false), (Spec.is (.bool false), false), (Spec.is (.bool false), false), (Spec.is (.bool false), false), (Spec.is (.int .i64 e1), false), (Spec.is (.int .i64 e1), false), (Spec.is (.bool false), false), (Spec.is (.bool false), false), (Spec.is (.bool false), false), (Spec.is (.agg [.slice A22 G.length c22].toArray), false), (Spec.is (.agg [.slice A24 G.length c24].toArray), false), (Spec.is (.bool true), false), (Spec.is (.bool false), false), (Spec.is (.bool false), false), (Spec.is (.bool false), false), (Spec.is (.int .i64 e2), false), (Spec.is (.int .i64 e2), false), (Spec.is (.bool false), false), (Spec.is (.bool false), false), (Spec.is (.bool false), false), (Spec.is (.agg [.slice A8 P.length c8].toArray), false), (Spec.is (.slice A9 Q.length c9), false), (spNetC SN SL, false), (Spec.is (.agg [.slice A8 P.length c8].toArray), false), (Spec.is (.slice A9 Q.length c9), false), (spNetC SN SL, false), (Spec.is (.bool true), false), (Spec.is (.bool false), false), (Spec.is (.bool false), false)] 166 (by kernel_rfl) rfl (by decide) rfl (by decide) (by kernel_rfl) ?_ ?_
  · refine ⟨?_, ?_, ?_, ?_, ?_, ?_, ?_, ?_, ?_, ?_, ?_, ?_, ?_, ?_, ?_, ?_, ?_, ?_, ?_, ?_, ?_, ?_, ?_, ?_, ?_, ?_, ?_, ?_, ?_, ?_, ?_, ?_, ?_, ?_, ?_, ?_, ?_, ?_, ?_, ?_, ?_, ?_, ?_, ?_, ?_, ?_, ?_, trivial⟩
    · intro a W hE hb hs
      have h12 : a.eval (.tmp 12) = .pointer (some ⟨X12, 0, none⟩) := hb 12 (by decide)
      refine flow0 rfl ?_
      exact val_load_row 39 _ rfl X12 0 h12 (pvC pv12) d39 (Blk.range (HBX12.out.below (ext_below hE) HBX12.out.lt)) hd39 hrow39 (by rw [pvC_len]; kernel_rfl) ⟨rfl, trivial⟩
    · intro a W hE hb hs
      have h15 : a.eval (.tmp 15) = .pointer (some ⟨X15, 0, none⟩) := hb 15 (by decide)
      refine flow0 rfl ?_
      exact val_load_row 39 _ rfl X15 0 h15 (pvC pv15) d39 (Blk.range (HBX15.out.below (ext_below hE) HBX15.out.lt)) hd39 hrow39 (by rw [pvC_len]; kernel_rfl) ⟨rfl, trivial⟩
    · intro a W hE hb hs
      have h96 : a.eval (.tmp 96) = .agg (pvC pv12).toArray := hs 0 (by decide)
      have h97 : a.eval (.tmp 97) = .agg (pvC pv15).toArray := hs 1 (by decide)
      refine flow0 rfl ?_
      exact val_call 18 _ _ rfl (by kernel_rfl) [.agg (pvC pv12).toArray, .agg (pvC pv15).toArray] (by show [a.eval (.tmp 96), a.eval (.tmp 97)] = _; rw [h96, h97]) ((Same_any pv12 pv15 p p W (Hp12.out.below (ext_below hE)) (Hp15.out.below (ext_below hE)) Hto.out.1 Hto.out.1).mono (by rintro e W' ⟨rfl, hb⟩; rw [decide_eq_true rfl]; exact ⟨_, rfl, hb, rfl, trivial⟩))
    · intro a W hE hb hs
      have h98 : a.eval (.tmp 98) = .bool true := hs 2 (by decide)
      refine flow0 rfl ?_
      exact val_not _ _ rfl _ h98 ⟨rfl, trivial⟩
    · intro a W hE hb hs
      have h99 : a.eval (.tmp 99) = .bool false := hs 3 (by decide)
      refine flow0 rfl ?_
      exact val_move _ rfl _ h99 ⟨rfl, trivial⟩
    · intro a W hE hb hs
      have h13 : a.eval (.tmp 13) = .pointer (some ⟨X13, 0, none⟩) := hb 13 (by decide)
      have h100 : a.eval (.tmp 100) = .bool false := hs 4 (by decide)
      refine flowY rfl rfl h100 ?_
      exact val_load_row 30 _ rfl X13 0 h13 [.slice A13 E.length c13] d30 (Blk.range (HBX13.out.below (ext_below hE) HBX13.out.lt)) hd30 hrow30 (by skip; kernel_rfl) ⟨rfl, trivial⟩
    · intro a W hE hb hs
      have h16 : a.eval (.tmp 16) = .pointer (some ⟨X16, 0, none⟩) := hb 16 (by decide)
      have h100 : a.eval (.tmp 100) = .bool false := hs 4 (by decide)
      refine flowY rfl rfl h100 ?_
      exact val_load_row 30 _ rfl X16 0 h16 [.slice A16 E.length c16] d30 (Blk.range (HBX16.out.below (ext_below hE) HBX16.out.lt)) hd30 hrow30 (by skip; kernel_rfl) ⟨rfl, trivial⟩
    · intro a W hE hb hs
      have h101 : a.eval (.tmp 101) = .agg [.slice A13 E.length c13].toArray := hs 5 (by decide)
      have h102 : a.eval (.tmp 102) = .agg [.slice A16 E.length c16].toArray := hs 6 (by decide)
      have h100 : a.eval (.tmp 100) = .bool false := hs 4 (by decide)
      refine flowY rfl rfl h100 ?_
      exact val_call 19 _ _ rfl (by kernel_rfl) [.agg #[.slice A13 E.length c13], .agg #[.slice A16 E.length c16]] (by show [a.eval (.tmp 101), a.eval (.tmp 102)] = _; rw [h101, h102]) ((SameNet_any A13 E.length c13 E A16 E.length c16 E W (Hn13.out.below (ext_below hE)) (Hn16.out.below (ext_below hE)) Hto.out.2.1 Hto.out.2.1 (by omega) (by omega)).mono (by rintro e W' ⟨rfl, hb⟩; rw [decide_eq_true rfl]; exact ⟨_, rfl, hb, rfl, trivial⟩))
    · intro a W hE hb hs
      have h103 : a.eval (.tmp 103) = .bool true := hs 7 (by decide)
      have h100 : a.eval (.tmp 100) = .bool false := hs 4 (by decide)
      refine flowY rfl rfl h100 ?_
      exact val_not _ _ rfl _ h103 ⟨rfl, trivial⟩
    · intro a W hE hb hs
      have h100 : a.eval (.tmp 100) = .bool false := hs 4 (by decide)
      have h104 : a.eval (.tmp 104) = .bool false := hs 8 (by decide)
      refine flow0 rfl ?_
      exact val_pick _ _ _ rfl false h100 _ (by rw [if_neg (by decide)]; exact h104) ⟨rfl, trivial⟩
    · intro a W hE hb hs
      have h105 : a.eval (.tmp 105) = .bool false := hs 9 (by decide)
      refine flow0 rfl ?_
      exact val_move _ rfl _ h105 ⟨rfl, trivial⟩
    · intro a W hE hb hs
      have h14 : a.eval (.tmp 14) = .int .i64 e0 := hb 14 (by decide)
      have h106 : a.eval (.tmp 106) = .bool false := hs 10 (by decide)
      refine flowY rfl rfl h106 ?_
      exact val_move _ rfl _ h14 ⟨rfl, trivial⟩
    · intro a W hE hb hs
      have h17 : a.eval (.tmp 17) = .int .i64 e0 := hb 17 (by decide)
      have h106 : a.eval (.tmp 106) = .bool false := hs 10 (by decide)
      refine flowY rfl rfl h106 ?_
      exact val_move _ rfl _ h17 ⟨rfl, trivial⟩
    · intro a W hE hb hs
      have h107 : a.eval (.tmp 107) = .int .i64 e0 := hs 11 (by decide)
      have h108 : a.eval (.tmp 108) = .int .i64 e0 := hs 12 (by decide)
      have h106 : a.eval (.tmp 106) = .bool false := hs 10 (by decide)
      refine flowY rfl rfl h106 ?_
      intro K hK
      unfold Oper.wp execOp
      simp only [h107, h108]
      simp [go_sem]
      exact hK _ _ ⟨Below.refl _ _, rfl, trivial⟩
    · intro a W hE hb hs
      have h106 : a.eval (.tmp 106) = .bool false := hs 10 (by decide)
      have h109 : a.eval (.tmp 109) = .bool false := hs 13 (by decide)
      refine flow0 rfl ?_
      exact val_pick _ _ _ rfl false h106 _ (by rw [if_neg (by decide)]; exact h109) ⟨rfl, trivial⟩
    · intro a W hE hb hs
      have h110 : a.eval (.tmp 110) = .bool false := hs 14 (by decide)
      refine flow0 rfl ?_
      exact val_move _ rfl _ h110 ⟨rfl, trivial⟩
    · intro a W hE hb hs
      have h18 : a.eval (.tmp 18) = .pointer (some ⟨X18, 0, none⟩) := hb 18 (by decide)
      have h111 : a.eval (.tmp 111) = .bool false := hs 15 (by decide)
      refine flowY rfl rfl h111 ?_
      exact val_load_row 30 _ rfl X18 0 h18 [.slice A18 D.length c18] d30 (Blk.range (HBX18.out.below (ext_below hE) HBX18.out.lt)) hd30 hrow30 (by skip; kernel_rfl) ⟨rfl, trivial⟩
    · intro a W hE hb hs
      have h20 : a.eval (.tmp 20) = .pointer (some ⟨X20, 0, none⟩) := hb 20 (by decide)
      have h111 : a.eval (.tmp 111) = .bool false := hs 15 (by decide)
      refine flowY rfl rfl h111 ?_
      exact val_load_row 30 _ rfl X20 0 h20 [.slice A20 D.length c20] d30 (Blk.range (HBX20.out.below (ext_below hE) HBX20.out.lt)) hd30 hrow30 (by skip; kernel_rfl) ⟨rfl, trivial⟩
    · intro a W hE hb hs
      have h112 : a.eval (.tmp 112) = .agg [.slice A18 D.length c18].toArray := hs 16 (by decide)
      have h113 : a.eval (.tmp 113) = .agg [.slice A20 D.length c20].toArray := hs 17 (by decide)
      have h111 : a.eval (.tmp 111) = .bool false := hs 15 (by decide)
      refine flowY rfl rfl h111 ?_
      exact val_call 19 _ _ rfl (by kernel_rfl) [.agg #[.slice A18 D.length c18], .agg #[.slice A20 D.length c20]] (by show [a.eval (.tmp 112), a.eval (.tmp 113)] = _; rw [h112, h113]) ((SameNet_any A18 D.length c18 D A20 D.length c20 D W (Hn18.out.below (ext_below hE)) (Hn20.out.below (ext_below hE)) Hdo.out Hdo.out (by omega) (by omega)).mono (by rintro e W' ⟨rfl, hb⟩; rw [decide_eq_true rfl]; exact ⟨_, rfl, hb, rfl, trivial⟩))
    · intro a W hE hb hs
      have h114 : a.eval (.tmp 114) = .bool true := hs 18 (by decide)
      have h111 : a.eval (.tmp 111) = .bool false := hs 15 (by decide)
      refine flowY rfl rfl h111 ?_
      exact val_not _ _ rfl _ h114 ⟨rfl, trivial⟩
    · intro a W hE hb hs
      have h111 : a.eval (.tmp 111) = .bool false := hs 15 (by decide)
      have h115 : a.eval (.tmp 115) = .bool false := hs 19 (by decide)
      refine flow0 rfl ?_
      exact val_pick _ _ _ rfl false h111 _ (by rw [if_neg (by decide)]; exact h115) ⟨rfl, trivial⟩
    · intro a W hE hb hs
      have h116 : a.eval (.tmp 116) = .bool false := hs 20 (by decide)
      refine flow0 rfl ?_
      exact val_move _ rfl _ h116 ⟨rfl, trivial⟩
    · intro a W hE hb hs
      have h19 : a.eval (.tmp 19) = .int .i64 e1 := hb 19 (by decide)
      have h117 : a.eval (.tmp 117) = .bool false := hs 21 (by decide)
      refine flowY rfl rfl h117 ?_
      exact val_move _ rfl _ h19 ⟨rfl, trivial⟩
    · intro a W hE hb hs
      have h21 : a.eval (.tmp 21) = .int .i64 e1 := hb 21 (by decide)
      have h117 : a.eval (.tmp 117) = .bool false := hs 21 (by decide)
      refine flowY rfl rfl h117 ?_
      exact val_move _ rfl _ h21 ⟨rfl, trivial⟩
    · intro a W hE hb hs
      have h118 : a.eval (.tmp 118) = .int .i64 e1 := hs 22 (by decide)
      have h119 : a.eval (.tmp 119) = .int .i64 e1 := hs 23 (by decide)
      have h117 : a.eval (.tmp 117) = .bool false := hs 21 (by decide)
      refine flowY rfl rfl h117 ?_
      intro K hK
      unfold Oper.wp execOp
      simp only [h118, h119]
      simp [go_sem]
      exact hK _ _ ⟨Below.refl _ _, rfl, trivial⟩
    · intro a W hE hb hs
      have h117 : a.eval (.tmp 117) = .bool false := hs 21 (by decide)
      have h120 : a.eval (.tmp 120) = .bool false := hs 24 (by decide)
      refine flow0 rfl ?_
      exact val_pick _ _ _ rfl false h117 _ (by rw [if_neg (by decide)]; exact h120) ⟨rfl, trivial⟩
    · intro a W hE hb hs
      have h121 : a.eval (.tmp 121) = .bool false := hs 25 (by decide)
      refine flow0 rfl ?_
      exact val_move _ rfl _ h121 ⟨rfl, trivial⟩
    · intro a W hE hb hs
      have h22 : a.eval (.tmp 22) = .pointer (some ⟨X22, 0, none⟩) := hb 22 (by decide)
      have h122 : a.eval (.tmp 122) = .bool false := hs 26 (by decide)
      refine flowY rfl rfl h122 ?_
      exact val_load_row 30 _ rfl X22 0 h22 [.slice A22 G.length c22] d30 (Blk.range (HBX22.out.below (ext_below hE) HBX22.out.lt)) hd30 hrow30 (by skip; kernel_rfl) ⟨rfl, trivial⟩
    · intro a W hE hb hs
      have h24 : a.eval (.tmp 24) = .pointer (some ⟨X24, 0, none⟩) := hb 24 (by decide)
      have h122 : a.eval (.tmp 122) = .bool false := hs 26 (by decide)
      refine flowY rfl rfl h122 ?_
      exact val_load_row 30 _ rfl X24 0 h24 [.slice A24 G.length c24] d30 (Blk.range (HBX24.out.below (ext_below hE) HBX24.out.lt)) hd30 hrow30 (by skip; kernel_rfl) ⟨rfl, trivial⟩
    · intro a W hE hb hs
      have h123 : a.eval (.tmp 123) = .agg [.slice A22 G.length c22].toArray := hs 27 (by decide)
      have h124 : a.eval (.tmp 124) = .agg [.slice A24 G.length c24].toArray := hs 28 (by decide)
      have h122 : a.eval (.tmp 122) = .bool false := hs 26 (by decide)
      refine flowY rfl rfl h122 ?_
      exact val_call 19 _ _ rfl (by kernel_rfl) [.agg #[.slice A22 G.length c22], .agg #[.slice A24 G.length c24]] (by show [a.eval (.tmp 123), a.eval (.tmp 124)] = _; rw [h123, h124]) ((SameNet_any A22 G.length c22 G A24 G.length c24 G W (Hn22.out.below (ext_below hE)) (Hn24.out.below (ext_below hE)) Hfo.out Hfo.out (by omega) (by omega)).mono (by rintro e W' ⟨rfl, hb⟩; rw [decide_eq_true rfl]; exact ⟨_, rfl, hb, rfl, trivial⟩))
    · intro a W hE hb hs
      have h125 : a.eval (.tmp 125) = .bool true := hs 29 (by decide)
      have h122 : a.eval (.tmp 122) = .bool false := hs 26 (by decide)
      refine flowY rfl rfl h122 ?_
      exact val_not _ _ rfl _ h125 ⟨rfl, trivial⟩
    · intro a W hE hb hs
      have h122 : a.eval (.tmp 122) = .bool false := hs 26 (by decide)
      have h126 : a.eval (.tmp 126) = .bool false := hs 30 (by decide)
      refine flow0 rfl ?_
      exact val_pick _ _ _ rfl false h122 _ (by rw [if_neg (by decide)]; exact h126) ⟨rfl, trivial⟩
    · intro a W hE hb hs
      have h127 : a.eval (.tmp 127) = .bool false := hs 31 (by decide)
      refine flow0 rfl ?_
      exact val_move _ rfl _ h127 ⟨rfl, trivial⟩
    · intro a W hE hb hs
      have h23 : a.eval (.tmp 23) = .int .i64 e2 := hb 23 (by decide)
      have h128 : a.eval (.tmp 128) = .bool false := hs 32 (by decide)
      refine flowY rfl rfl h128 ?_
      exact val_move _ rfl _ h23 ⟨rfl, trivial⟩
    · intro a W hE hb hs
      have h25 : a.eval (.tmp 25) = .int .i64 e2 := hb 25 (by decide)
      have h128 : a.eval (.tmp 128) = .bool false := hs 32 (by decide)
      refine flowY rfl rfl h128 ?_
      exact val_move _ rfl _ h25 ⟨rfl, trivial⟩
    · intro a W hE hb hs
      have h129 : a.eval (.tmp 129) = .int .i64 e2 := hs 33 (by decide)
      have h130 : a.eval (.tmp 130) = .int .i64 e2 := hs 34 (by decide)
      have h128 : a.eval (.tmp 128) = .bool false := hs 32 (by decide)
      refine flowY rfl rfl h128 ?_
      intro K hK
      unfold Oper.wp execOp
      simp only [h129, h130]
      simp [go_sem]
      exact hK _ _ ⟨Below.refl _ _, rfl, trivial⟩
    · intro a W hE hb hs
      have h128 : a.eval (.tmp 128) = .bool false := hs 32 (by decide)
      have h131 : a.eval (.tmp 131) = .bool false := hs 35 (by decide)
      refine flow0 rfl ?_
      exact val_pick _ _ _ rfl false h128 _ (by rw [if_neg (by decide)]; exact h131) ⟨rfl, trivial⟩
    · intro a W hE hb hs
      have h132 : a.eval (.tmp 132) = .bool false := hs 36 (by decide)
      refine flow0 rfl ?_
      exact val_move _ rfl _ h132 ⟨rfl, trivial⟩
    · intro a W hE hb hs
      have h8 : a.eval (.tmp 8) = .pointer (some ⟨X8, 0, none⟩) := hb 8 (by decide)
      have h133 : a.eval (.tmp 133) = .bool false := hs 37 (by decide)
      refine flowY rfl rfl h133 ?_
      exact val_load_row 30 _ rfl X8 0 h8 [.slice A8 P.length c8] d30 (Blk.range (HBX8.out.below (ext_below hE) HBX8.out.lt)) hd30 hrow30 (by skip; kernel_rfl) ⟨rfl, trivial⟩
    · intro a W hE hb hs
      have h9 : a.eval (.tmp 9) = .slice A9 Q.length c9 := hb 9 (by decide)
      have h133 : a.eval (.tmp 133) = .bool false := hs 37 (by decide)
      refine flowY rfl rfl h133 ?_
      exact val_move _ rfl _ h9 ⟨rfl, trivial⟩
    · intro a W hE hb hs
      have h134 : a.eval (.tmp 134) = .agg [.slice A8 P.length c8].toArray := hs 38 (by decide)
      have h135 : a.eval (.tmp 135) = .slice A9 Q.length c9 := hs 39 (by decide)
      have h133 : a.eval (.tmp 133) = .bool false := hs 37 (by decide)
      refine flowY rfl rfl h133 ?_
      exact val_call 20 _ _ rfl (by kernel_rfl) [.agg #[.slice A8 P.length c8], .slice A9 Q.length c9] (by show [a.eval (.tmp 134), a.eval (.tmp 135)] = _; rw [h134, h135]) ((SendZ_any A8 P.length c8 P A9 Q.length c9 Q SN SL W (Hn8.out.below (ext_below hE)) (Hn9.out.below (ext_below hE)) hN8 (by omega) hc9 HSN.out HSL.out).mono (by rintro e W' ⟨⟨A', c', rfl, hp'⟩, hb'⟩; exact ⟨_, rfl, hb', ⟨A', c', rfl, hp'⟩, trivial⟩))
    · intro a W hE hb hs
      have h8 : a.eval (.tmp 8) = .pointer (some ⟨X8, 0, none⟩) := hb 8 (by decide)
      have h133 : a.eval (.tmp 133) = .bool false := hs 37 (by decide)
      refine flowY rfl rfl h133 ?_
      exact val_load_row 30 _ rfl X8 0 h8 [.slice A8 P.length c8] d30 (Blk.range (HBX8.out.below (ext_below hE) HBX8.out.lt)) hd30 hrow30 (by skip; kernel_rfl) ⟨rfl, trivial⟩
    · intro a W hE hb hs
      have h9 : a.eval (.tmp 9) = .slice A9 Q.length c9 := hb 9 (by decide)
      have h133 : a.eval (.tmp 133) = .bool false := hs 37 (by decide)
      refine flowY rfl rfl h133 ?_
      exact val_move _ rfl _ h9 ⟨rfl, trivial⟩
    · intro a W hE hb hs
      have h137 : a.eval (.tmp 137) = .agg [.slice A8 P.length c8].toArray := hs 41 (by decide)
      have h138 : a.eval (.tmp 138) = .slice A9 Q.length c9 := hs 42 (by decide)
      have h133 : a.eval (.tmp 133) = .bool false := hs 37 (by decide)
      refine flowY rfl rfl h133 ?_
      exact val_call 21 _ _ rfl (by kernel_rfl) [.agg #[.slice A8 P.length c8], .slice A9 Q.length c9] (by show [a.eval (.tmp 137), a.eval (.tmp 138)] = _; rw [h137, h138]) ((RSendZ_any A8 P.length c8 P A9 Q.length c9 Q SN SL W (Hn8.out.below (ext_below hE)) (Hn9.out.below (ext_below hE)) hN8 (by omega) hc9 HSN.out HSL.out).mono (by rintro e W' ⟨⟨A', c', rfl, hp'⟩, hb'⟩; exact ⟨_, rfl, hb', ⟨A', c', rfl, hp'⟩, trivial⟩))
    · intro a W hE hb hs
      have h136 : ∃ (A : Option Addr) (c : Nat), (a.eval (.tmp 136)) = .agg #[.slice A SN c] ∧ PksAt W A SN SL := hs 40 (by decide)
      have h139 : ∃ (A : Option Addr) (c : Nat), (a.eval (.tmp 139)) = .agg #[.slice A SN c] ∧ PksAt W A SN SL := hs 43 (by decide)
      have h133 : a.eval (.tmp 133) = .bool false := hs 37 (by decide)
      refine flowY rfl rfl h133 ?_
      obtain ⟨A', c', e1_, k1⟩ := h136
      obtain ⟨A2', c2', e2_, k2⟩ := h139
      exact val_call 19 _ _ rfl (by kernel_rfl) [netV A' SN c', netV A2' SN c2'] (by show [a.eval (.tmp 136), a.eval (.tmp 139)] = _; rw [e1_, e2_]; rfl) ((SameNet_any A' SN c' SL A2' SN c2' SL W k1 k2 HSo.out HSo.out hSN1 hSN1).mono (by rintro e W' ⟨rfl, hb⟩; rw [decide_eq_true rfl]; exact ⟨_, rfl, hb, rfl, trivial⟩))
    · intro a W hE hb hs
      have h140 : a.eval (.tmp 140) = .bool true := hs 44 (by decide)
      have h133 : a.eval (.tmp 133) = .bool false := hs 37 (by decide)
      refine flowY rfl rfl h133 ?_
      exact val_not _ _ rfl _ h140 ⟨rfl, trivial⟩
    · intro a W hE hb hs
      have h133 : a.eval (.tmp 133) = .bool false := hs 37 (by decide)
      have h141 : a.eval (.tmp 141) = .bool false := hs 45 (by decide)
      refine flow0 rfl ?_
      exact val_pick _ _ _ rfl false h133 _ (by rw [if_neg (by decide)]; exact h141) ⟨rfl, trivial⟩
  intro f W hb hT hp hd
  have e_ : f 142 = .bool false := hT 46 (by decide)
  simp only [putV, List.foldl_cons, List.foldl_nil, Act.put, List.setIfInBounds_toArray, List.set_cons_succ, List.set_cons_zero, Exit.then]
  rw [e_]
  obtain ⟨v18, rfl⟩ : ∃ q, q = W := ⟨_, rfl⟩
  have hb_ := hb
  clear hb hT hp hd e_
  replace HB := Lib.hid (HB.out.trans (hb_.mono HB.out.size))
  replace Hr := Lib.hid (Hr.out.below hb_)
  clear hb_
  obtain ⟨bl, hbl⟩ : ∃ q, q = bs.take 200 := ⟨_, rfl⟩
  have Hbl := Lib.hid hbl
  clear hbl
  obtain ⟨T, hT⟩ : ∃ q, q = ansP bl := ⟨_, rfl⟩
  have HT := Lib.hid hT
  clear hT
  have hTok : okP T.1 := by
    rcases ans_cases bl with ⟨h1, _⟩ | ⟨_, _, h3, _⟩
    · rw [HT.out, h1]; exact okP0
    · rw [HT.out]; exact okP_of h3
  go_upto_region 15 with fail
  refine (Limited_any C len cap 200 bs v18 Hr.out hlc (by omega)).mono ?_
  rintro e v26 ⟨⟨L26, rfl, hl26, _, hr_⟩, hw_⟩
  rw [← Hbl.out] at hr_
  subst hw_
  have Hl26 := Lib.hid hr_
  clear hr_
  go_upto_region 15 with fail
  refine (Parse0_any C L26 cap bl T.1 T.2 v26 Hl26.out hl26 HT.out.symm).mono ?_
  rintro e v19 ⟨⟨pv26, rfl, hp_⟩, hb_⟩
  replace HB := Lib.hid (HB.out.trans (hb_.mono HB.out.size))
  replace Hr := Lib.hid (Hr.out.below hb_)
  clear hb_
  have Hp26 := Lib.hid hp_
  clear hp_ Hl26
  go_upto_region 15 with (first | (refine wpList_alloc0 rfl 39 rfl (pvC pv0).toArray _ i39 hi39 hz39 rfl ?_; simp only [Act.put, List.setIfInBounds_toArray, List.set_cons_succ, List.set_cons_zero]; try simp only [World.size_alloc]) | (refine wpList_store_row rfl 39 (.tmp 26) (.tmp 147) rfl v19.heap.size (pvC pv26).toArray rfl rfl 39 _ (Blk.new v19 _ _) (size39 _ rfl) rfl (pv_row_one _) ?_; rw [alloc_setRow]))
  obtain ⟨X26, hX26⟩ : ∃ q, q = v19.heap.size := ⟨_, rfl⟩
  obtain ⟨v20, hv20⟩ : ∃ q, q = v19.alloc (.cells (pvC pv26).toArray 39) := ⟨_, rfl⟩
  have hb_ : Below v19.heap.size v19 v20 := by rw [hv20]; exact (Below.refl _ _).alloc (Nat.le_refl _) _
  have HBX26 := Lib.hid (show Blk v20 X26 39 (pvC pv26).toArray by rw [hv20, hX26]; exact Blk.new _ _ _)
  have hlX26 : w.heap.size ≤ X26 := by have := HB.out.size; omega
  rw [← hv20, ← hX26]
  replace HB := Lib.hid (HB.out.trans (hb_.mono HB.out.size))
  replace Hr := Lib.hid (Hr.out.below hb_)
  replace Hp26 := Lib.hid (Hp26.out.below hb_)
  clear hb_ hv20 hX26
  go_upto_region 16 with fail
  refine (Limited_any C len cap 200 bs v20 Hr.out hlc (by omega)).mono ?_
  rintro e v28 ⟨⟨L28, rfl, hl28, _, hr_⟩, hw_⟩
  rw [← Hbl.out] at hr_
  subst hw_
  have Hl28 := Lib.hid hr_
  clear hr_
  go_upto_region 16 with fail
  refine (RNParse0_any C L28 cap bl T.1 T.2 v28 Hl28.out hl28 HT.out.symm).mono ?_
  rintro e v21 ⟨⟨pv28, rfl, hp_⟩, hb_⟩
  replace HB := Lib.hid (HB.out.trans (hb_.mono HB.out.size))
  replace Hr := Lib.hid (Hr.out.below hb_)
  replace Hp26 := Lib.hid (Hp26.out.below hb_)
  replace HBX26 := Lib.hid (HBX26.out.below hb_ HBX26.out.lt)
  clear hb_
  have Hp28 := Lib.hid hp_
  clear hp_ Hl28
  go_upto_region 16 with (first | (refine wpList_alloc0 rfl 39 rfl (pvC pv0).toArray _ i39 hi39 hz39 rfl ?_; simp only [Act.put, List.setIfInBounds_toArray, List.set_cons_succ, List.set_cons_zero]; try simp only [World.size_alloc]) | (refine wpList_store_row rfl 39 (.tmp 28) (.tmp 153) rfl v21.heap.size (pvC pv28).toArray rfl rfl 39 _ (Blk.new v21 _ _) (size39 _ rfl) rfl (pv_row_one _) ?_; rw [alloc_setRow]))
  obtain ⟨X28, hX28⟩ : ∃ q, q = v21.heap.size := ⟨_, rfl⟩
  obtain ⟨v22, hv22⟩ : ∃ q, q = v21.alloc (.cells (pvC pv28).toArray 39) := ⟨_, rfl⟩
  have hb_ : Below v21.heap.size v21 v22 := by rw [hv22]; exact (Below.refl _ _).alloc (Nat.le_refl _) _
  have HBX28 := Lib.hid (show Blk v22 X28 39 (pvC pv28).toArray by rw [hv22, hX28]; exact Blk.new _ _ _)
  have hlX28 : w.heap.size ≤ X28 := by have := HB.out.size; omega
  rw [← hv22, ← hX28]
  have hoX26X28 : X26 < X28 := by have := HBX26.out.lt; omega
  replace HB := Lib.hid (HB.out.trans (hb_.mono HB.out.size))
  replace Hr := Lib.hid (Hr.out.below hb_)
  replace Hp26 := Lib.hid (Hp26.out.below hb_)
  replace HBX26 := Lib.hid (HBX26.out.below hb_ HBX26.out.lt)
  replace Hp28 := Lib.hid (Hp28.out.below hb_)
  clear hb_ hv22 hX28
  have Hk := Lib.hid (Blk.range HBX26.out)
  have Hk2 := Lib.hid (Blk.range HBX28.out)
  go_wp2_with (first | (refine wpList_load_mid_g (by first | rfl | simp [Region.wanted, yielded]) 39 (.tmp 26) rfl X26 0 rfl (pvC pv26) d39 Hk.out hd39 hrow39 (by rw [pvC_len]; kernel_rfl) ?_) | (refine wpList_load_mid_g (by first | rfl | simp [Region.wanted, yielded]) 39 (.tmp 28) rfl X28 0 rfl (pvC pv28) d39 Hk2.out hd39 hrow39 (by rw [pvC_len]; kernel_rfl) ?_))
  clear Hk Hk2
  refine (Same_any pv26 pv28 T.1 T.1 v22 Hp26.out Hp28.out hTok hTok).mono ?_
  rintro e v23 ⟨rfl, hb_⟩
  replace HB := Lib.hid (HB.out.trans (hb_.mono HB.out.size))
  replace Hr := Lib.hid (Hr.out.below hb_)
  replace Hp26 := Lib.hid (Hp26.out.below hb_)
  replace HBX26 := Lib.hid (HBX26.out.below hb_ HBX26.out.lt)
  replace Hp28 := Lib.hid (Hp28.out.below hb_)
  replace HBX28 := Lib.hid (HBX28.out.below hb_ HBX28.out.lt)
  clear hb_
  rw [decide_eq_true rfl]
  go_wp2_with fail
  go_ret
  exact ⟨rfl, HB.out⟩
end Go.Proofs.Yteofgkdpknaapaa
