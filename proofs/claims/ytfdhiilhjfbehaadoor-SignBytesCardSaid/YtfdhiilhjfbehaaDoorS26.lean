/- SignKeys: the path is the proof for the chunk of the key. -/
import Derived.Test.YtfdhiilhjfbehaaDoorS25
namespace Go.Proofs.YtfdhiilhjfbehaaDoor
open Go.RowKit Go.Sort

theorem secS00 (bs : List UInt8) : secS bs 0 0 = ⟨padS (bs.take 32), 0, 0⟩ := rfl
def spSl (bs : List UInt8) : Spec := ⟨fun v W => ∃ (A : Option Addr) (n c : Nat), v = .slice A n c ∧ Rd W 1 A n (bs.map byteV), fun _ _ _ ⟨A, n, c, h1, h2⟩ hb => ⟨A, n, c, h1, h2.below hb⟩⟩

set_option maxRecDepth 100000 in
set_option maxHeartbeats 2000000 in
theorem SignKeys_any (As : Option Addr) (ls cs : Nat) (bs : List UInt8) (a b : UInt8) (A : Option Addr) (len cap : Nat) (bs2 : List UInt8) (w : World) (hg : Globs w) (hrs : Rd w 1 As ls (bs.map byteV)) (hr : Rd w 1 A len (bs2.map byteV)) (hlc : len ≤ cap) :
    Calls Tryd.prog 8 #[.slice As ls cs, .agg #[byteV a, byteV b], .slice A len cap] w fun e w' => e = .returned (.bool true) ∧ Below w.heap.size w w' := by
  obtain ⟨i32, hi32, hz32, hs32, hy32⟩ := info_parts info32
  obtain ⟨i37, hi37, hz37, _, _⟩ := info_parts info37
  obtain ⟨i28, hi28, hz28, _, _⟩ := info_parts info28
  obtain ⟨i39, hi39, hz39, _, _⟩ := info_parts info39
  obtain ⟨d28, hd28, hrow28⟩ := und28
  obtain ⟨d37, hd37, hrow37⟩ := und37
  obtain ⟨d39, hd39, hrow39⟩ := und39
  unfold byteV
  go_enter Tryd.func8, Tryd.ntmps8
  go_upto_region 1 with fail
  obtain ⟨w1, hw1⟩ : ∃ v, v = w.alloc (.cells #[.int .u8 (a.toNat : Int), .int .u8 (b.toNat : Int)] 30) := ⟨_, rfl⟩
  have hB1 : Below w.heap.size w w1 := by rw [hw1]; exact (Below.refl _ _).alloc (Nat.le_refl _) _
  have hX1 : Blk w1 w.heap.size 30 #[.int .u8 (a.toNat : Int), .int .u8 (b.toNat : Int)] := by rw [hw1]; exact Blk.new _ _ _
  rw [← hw1]
  clear hw1
  have HB := Lib.hid hB1
  have HW := Lib.hid hX1
  have Hg := Lib.hid (hg.below hB1)
  have Hg0 := Lib.hid hg
  have Hr0 := Lib.hid hr
  have Hs := Lib.hid (hrs.below hB1)
  have Hr := Lib.hid (hr.below hB1)
  clear hB1 hX1 hg hrs hr
  go_upto_region 2 with fail
  refine (sanity_any w1 Hg.out).mono ?_
  rintro e v1 ⟨rfl, hb_⟩
  replace HB := Lib.hid (HB.out.trans (hb_.mono HB.out.size))
  replace HW := Lib.hid (HW.out.below hb_ HW.out.lt)
  replace Hg := Lib.hid (Hg.out.below hb_)
  replace Hs := Lib.hid (Hs.out.below hb_)
  replace Hr := Lib.hid (Hr.out.below hb_)
  clear hb_
  go_upto_region 3 with fail
  refine (Secret_any As ls cs bs 0 0 v1 Hs.out).mono ?_
  rintro e v2 ⟨rfl, hb_⟩
  replace HB := Lib.hid (HB.out.trans (hb_.mono HB.out.size))
  replace HW := Lib.hid (HW.out.below hb_ HW.out.lt)
  replace Hg := Lib.hid (Hg.out.below hb_)
  replace Hs := Lib.hid (Hs.out.below hb_)
  replace Hr := Lib.hid (Hr.out.below hb_)
  clear hb_
  rw [secS00]
  obtain ⟨s, hs⟩ : ∃ s, s = padS (bs.take 32) := ⟨_, rfl⟩
  rw [← hs]
  clear hs
  clear Hs
  obtain ⟨v3a, hv3a⟩ : ∃ v, v = (v2.alloc (.cells (secV sc0).toArray 28)) := ⟨_, rfl⟩
  obtain ⟨X8, hX8⟩ : ∃ v, v = v2.heap.size := ⟨_, rfl⟩
  have hNX8 : Blk (v2.alloc (.cells (secV sc0).toArray 28)) X8 28 (secV sc0).toArray := by
    have := Blk.new v2 28 (secV sc0).toArray
    skip
    rw [hX8]; exact this
  rw [← hv3a] at hNX8
  have hbA : Below v2.heap.size v2 v3a := by
    rw [hv3a]; exact (Below.refl _ _).alloc (by simp) _
  have HNX8 := Lib.hid hNX8
  have hkX8 := (KeptIn.refl (fun b => b ≠ X8) v3a).setRow (g := X8) (fun h => h rfl) (secV ⟨s, 0, 0⟩).toArray
  replace hNX8 : Blk (v3a.setRow X8 (secV ⟨s, 0, 0⟩).toArray) X8 28 (secV ⟨s, 0, 0⟩).toArray := setRow_heap _ _ _ _ _ _ HNX8.out
  obtain ⟨v3, hv3⟩ : ∃ v, v = (v3a.setRow X8 (secV ⟨s, 0, 0⟩).toArray) := ⟨_, rfl⟩
  have hbB : Below v2.heap.size v2 v3 := by rw [hv3]; exact (Below.setRow hbA (show v2.heap.size ≤ X8 by omega) _)
  rw [← hv3] at hNX8
  have HBX8 := Lib.hid hNX8
  have Hv3a := Lib.hid hv3a
  have Hv3 := Lib.hid hv3
  have HEX8 := Lib.hid hX8
  clear hNX8 hkX8 hv3a hv3 hbA
  have hlX8 : w.heap.size ≤ X8 := by have := HB.out.size; omega
  have hoX8 : w.heap.size < X8 := by have := HW.out.lt; omega
  clear hX8
  go_upto_region 3 with (first | (refine wpList_alloc0 rfl 28 rfl (secV sc0).toArray _ i28 hi28 hz28 rfl ?_; simp only [Act.put, List.setIfInBounds_toArray, List.set_cons_succ, List.set_cons_zero]; try simp only [World.size_alloc]) | (rw [← Hv3a.out, ← HEX8.out]; refine wpList_store_row rfl 28 (.tmp 8) (.tmp 19) rfl X8 (secV ⟨s, 0, 0⟩).toArray rfl rfl 28 _ HNX8.out (size28 _ (sec_size _)) ((sec_size _).trans (sec_size _).symm) (sec_one _) ?_; rw [← Hv3.out]))
  replace HB := Lib.hid (HB.out.trans (hbB.mono HB.out.size))
  replace HW := Lib.hid (HW.out.below hbB HW.out.lt)
  replace Hg := Lib.hid (Hg.out.below hbB)
  replace Hr := Lib.hid (Hr.out.below hbB)
  clear hbB
  clear HNX8 HEX8 Hv3a Hv3
  have cx0 : v3.cell? ⟨w.heap.size, 0, none⟩ = some (.int .u8 (a.toNat : Int)) := by rw [HW.out.cell]; rfl
  obtain ⟨H, hH⟩ : ∃ H : Nat, H = a.toNat % 3 := ⟨_, rfl⟩
  have hh1 : ((a.toNat : Int) % 3) = (H : Int) := by omega
  have hh2 : (a.toNat : Int).tmod 3 = (H : Int) := by rw [Int.tmod_eq_emod_of_nonneg (by omega)]; exact hh1
  have hH2 : H ≤ 2 := by omega
  have hww : IntKind.u8.wrap (H : Int) = (H : Int) := by simp [IntKind.wrap, IntKind.bits, IntKind.signed]; omega
  have hw3 : IntKind.i64.wrap (H : Int) = (H : Int) := by simp [IntKind.wrap, IntKind.bits, IntKind.signed]; omega
  clear hH
  have fr2 := HBX8.out.frozen 32
  have c2 : v3.cell? ⟨X8, 32, none⟩ = some (.int .i64 0) := by rw [HBX8.out.cell, List.getElem?_toArray, sec_h]
  go_upto_region 4 with fail
  clear fr2 c2 cx0 hh1 hh2 hww
  obtain ⟨v4, hv4⟩ : ∃ v, v = v3.setCell ⟨X8, 32, none⟩ (.int .i64 (H : Int)) := ⟨_, rfl⟩
  rw [← hv4]
  have hkx := (KeptIn.refl (fun b => b ≠ X8) v3).setAt (p := ⟨X8, 32, none⟩) (fun h => h rfl) (.int .i64 (H : Int))
  rw [← hv4] at hkx
  have hXX : Blk v4 X8 28 (secV ⟨s, (H : Int), 0⟩).toArray := by
    have := heap_setCell_same v3 X8 32 _ 28 (.int .i64 (H : Int)) HBX8.out
    rw [sec_seth] at this
    rw [hv4]; exact this
  replace HB := Lib.hid (show Below w.heap.size w v4 by rw [hv4]; exact Below.setCell HB.out (by omega) _)
  replace HW := Lib.hid (HW.out.keptIn hkx (show w.heap.size ≠ X8 by omega))
  have hg1 := Hg0.out.size
  replace Hg := Lib.hid (show Globs _ from Hg.out.keptIn hkx (show (0 : Nat) ≠ X8 by omega) (show (1 : Nat) ≠ X8 by omega))
  replace Hr := Lib.hid (Hr.out.keptIn hkx (fun b off h0 e => by have := Hr0.out.lt (by omega) h0 e; omega))
  replace HBX8 := Lib.hid hXX
  clear hXX hkx hv4
  obtain ⟨M, hM⟩ : ∃ M : Nat, M = 2 ^ H := ⟨_, rfl⟩
  have hM0 : 0 < M := by rw [hM]; exact Nat.two_pow_pos H
  have hM4 : M ≤ 4 := by rw [hM]; rcases (show H = 0 ∨ H = 1 ∨ H = 2 by omega) with rfl | rfl | rfl <;> decide
  have hsh : IntKind.i64.wrap (2 ^ H) = (M : Int) := by rw [hM]; rcases (show H = 0 ∨ H = 1 ∨ H = 2 by omega) with rfl | rfl | rfl <;> rfl
  have wb : IntKind.i64.wrap (b.toNat : Int) = (b.toNat : Int) := by have := b.toNat_lt; simp [IntKind.wrap, IntKind.bits, IntKind.signed]; omega
  obtain ⟨N, hN⟩ : ∃ N : Nat, N = b.toNat % M := ⟨_, rfl⟩
  have wq : (b.toNat : Int).tmod (M : Int) = (N : Int) := by rw [Int.tmod_eq_emod_of_nonneg (by omega), hN]; push_cast; rfl
  have wq0 : ¬ ((M : Int) = 0) := by omega
  have wq1 : ¬ (M = 0) := by omega
  have hNM : N < M := by rw [hN]; exact Nat.mod_lt _ hM0
  have HM := Lib.hid hM
  clear hM hN
  refine wp_region_flow_tail 8 [25, 26, 27, 28, 29, 30, 31, 32] [(Spec.is (.pointer (some ⟨w.heap.size, 1, none⟩)), false), (Spec.is (.int .u8 (b.toNat : Int)), false), (Spec.is (.int .i64 (b.toNat : Int)), false), (Spec.is (.pointer (some ⟨X8, 32, none⟩)), false), (Spec.is (.int .i64 (H : Int)), false), (Spec.is (.int .i64 (M : Int)), false), (Spec.is (.int .i64 (N : Int)), false), (Spec.is (.pointer (some ⟨X8, 33, none⟩)), false)] 97 (by kernel_rfl) (List.take_append_drop _ _) rfl (by kernel_rfl) (by kernel_rfl) (by kernel_rfl) (by decide) (by kernel_rfl) (by kernel_rfl) (fun _ _ d _ _ h => by cases d <;> exact h) rfl (by decide) rfl (by decide) (by kernel_rfl) ?_ ?_
  · refine ⟨?_, ?_, ?_, ?_, ?_, ?_, ?_, ?_, trivial⟩
    · intro a W hE hb hs
      have h4 : a.eval (.tmp 4) = .pointer (some ⟨w.heap.size, 0, none⟩) := hb 4 (by decide)
      refine flow0 rfl ?_
      intro K hK
      unfold Oper.wp execOp
      simp only [h4, BigFrame.eval_const]
      simp [go_sem]
      exact hK _ _ ⟨Below.refl _ _, rfl, trivial⟩
    · intro a W hE hb hs
      have h25 : a.eval (.tmp 25) = .pointer (some ⟨w.heap.size, 1, none⟩) := hs 0 (by decide)
      refine flow0 rfl ?_
      have g0 : W.cell? ⟨w.heap.size, 1, none⟩ = some (.int .u8 (b.toNat : Int)) := by rw [(HW.out.below (ext_below hE) HW.out.lt).cell]; rfl
      intro K hK
      unfold Oper.wp execOp
      simp only [h25]
      simp [go_sem, g0]
      exact hK _ _ ⟨Below.refl _ _, rfl, trivial⟩
    · intro a W hE hb hs
      have h26 : a.eval (.tmp 26) = .int .u8 (b.toNat : Int) := hs 1 (by decide)
      refine flow0 rfl ?_
      intro K hK
      unfold Oper.wp execOp
      simp only [h26]
      simp [go_sem, wb]
      exact hK _ _ ⟨Below.refl _ _, rfl, trivial⟩
    · intro a W hE hb hs
      have h8 : a.eval (.tmp 8) = .pointer (some ⟨X8, 0, none⟩) := hb 8 (by decide)
      refine flow0 rfl ?_
      intro K hK
      unfold Oper.wp execOp
      simp only [h8]
      simp [go_sem]
      exact hK _ _ ⟨Below.refl _ _, rfl, trivial⟩
    · intro a W hE hb hs
      have h28 : a.eval (.tmp 28) = .pointer (some ⟨X8, 32, none⟩) := hs 3 (by decide)
      refine flow0 rfl ?_
      have g0 : W.cell? ⟨X8, 32, none⟩ = some (.int .i64 (H : Int)) := by rw [(HBX8.out.below (ext_below hE) HBX8.out.lt).cell, List.getElem?_toArray, sec_h]
      intro K hK
      unfold Oper.wp execOp
      simp only [h28]
      simp [go_sem, g0]
      exact hK _ _ ⟨Below.refl _ _, rfl, trivial⟩
    · intro a W hE hb hs
      have h29 : a.eval (.tmp 29) = .int .i64 (H : Int) := hs 4 (by decide)
      refine flow0 rfl ?_
      intro K hK
      unfold Oper.wp execOp
      simp only [h29, BigFrame.eval_const]
      simp [go_sem, hsh]
      exact hK _ _ ⟨Below.refl _ _, rfl, trivial⟩
    · intro a W hE hb hs
      have h27 : a.eval (.tmp 27) = .int .i64 (b.toNat : Int) := hs 2 (by decide)
      have h30 : a.eval (.tmp 30) = .int .i64 (M : Int) := hs 5 (by decide)
      refine flow0 rfl ?_
      intro K hK
      unfold Oper.wp execOp
      simp only [h27, h30]
      simp [go_sem, wq, wq1]
      exact hK _ _ ⟨Below.refl _ _, rfl, trivial⟩
    · intro a W hE hb hs
      have h8 : a.eval (.tmp 8) = .pointer (some ⟨X8, 0, none⟩) := hb 8 (by decide)
      refine flow0 rfl ?_
      intro K hK
      unfold Oper.wp execOp
      simp only [h8]
      simp [go_sem]
      exact hK _ _ ⟨Below.refl _ _, rfl, trivial⟩
  intro f W hb hT hp hd
  have e31 : f 31 = .int .i64 (N : Int) := hT 6 (by decide)
  have e32 : f 32 = .pointer (some ⟨X8, 33, none⟩) := hT 7 (by decide)
  simp only [putV, List.foldl_cons, List.foldl_nil, Act.put, List.setIfInBounds_toArray, List.set_cons_succ, List.set_cons_zero]
  rw [e31, e32]
  replace HB := Lib.hid (HB.out.trans (hb.mono HB.out.size))
  replace HW := Lib.hid (HW.out.below hb HW.out.lt)
  replace Hg := Lib.hid (Hg.out.below hb)
  replace Hr := Lib.hid (Hr.out.below hb)
  replace HBX8 := Lib.hid (HBX8.out.below hb HBX8.out.lt)
  clear hb hT hp hd e31 e32 wq wq0 wq1 wb hsh hw3
  have fr2 := HBX8.out.frozen 33
  have c2 : W.cell? ⟨X8, 33, none⟩ = some (.int .i64 0) := by rw [HBX8.out.cell, List.getElem?_toArray, sec_n]
  go_upto_region 5 with fail
  clear fr2 c2
  obtain ⟨v5, hv5⟩ : ∃ v, v = W.setCell ⟨X8, 33, none⟩ (.int .i64 (N : Int)) := ⟨_, rfl⟩
  rw [← hv5]
  have hkx := (KeptIn.refl (fun b => b ≠ X8) W).setAt (p := ⟨X8, 33, none⟩) (fun h => h rfl) (.int .i64 (N : Int))
  rw [← hv5] at hkx
  have hXX : Blk v5 X8 28 (secV ⟨s, (H : Int), (N : Int)⟩).toArray := by
    have := heap_setCell_same W X8 33 _ 28 (.int .i64 (N : Int)) HBX8.out
    rw [sec_set] at this
    rw [hv5]; exact this
  replace HB := Lib.hid (show Below w.heap.size w v5 by rw [hv5]; exact Below.setCell HB.out (by omega) _)
  replace HW := Lib.hid (HW.out.keptIn hkx (show w.heap.size ≠ X8 by omega))
  have hg1 := Hg0.out.size
  replace Hg := Lib.hid (show Globs _ from Hg.out.keptIn hkx (show (0 : Nat) ≠ X8 by omega) (show (1 : Nat) ≠ X8 by omega))
  replace Hr := Lib.hid (Hr.out.keptIn hkx (fun b off h0 e => by have := Hr0.out.lt (by omega) h0 e; omega))
  replace HBX8 := Lib.hid hXX
  clear hXX hkx hv5
  clear HW
  obtain ⟨k, hk⟩ : ∃ k : Sc, k = ⟨s, (H : Int), (N : Int)⟩ := ⟨_, rfl⟩
  rw [← hk] at HBX8
  have hv : validS k = true := by rw [hk]; unfold validS; rw [decide_eq_true_eq]; refine ⟨by dsimp only; omega, by dsimp only; omega, by dsimp only; omega, ?_⟩; dsimp only; rw [Int.toNat_natCast]; have : N ≤ 2 ^ H := by { rw [← HM.out]; omega }; exact_mod_cast this
  have E1 := Lib.hid (show k.h = (H : Int) by rw [hk])
  have E3 := Lib.hid (show k.n = (N : Int) by rw [hk])
  have HV := Lib.hid hv
  clear hk hv
  go_upto_region 6 with fail
  refine (Limited_any A len cap 20 bs2 v5 Hr.out hlc (by omega)).mono ?_
  rintro e v6 ⟨⟨len', rfl, hl1, hl2, hr'⟩, hw'⟩
  subst hw'
  obtain ⟨B, hB⟩ : ∃ B, B = bs2.take 20 := ⟨_, rfl⟩
  rw [← hB] at hr'
  have Hb := Lib.hid hr'
  have HBl := Lib.hid (show len' ≤ bs2.length by have := hr'.len1; rw [hB, List.length_take] at this; omega)
  clear hr' hB
  clear Hr
  have Hk := Lib.hid (Blk.range HBX8.out)
  go_upto_region 7 with (refine wpList_load_mid rfl 28 (.tmp 8) rfl X8 0 rfl (secV k) d28 Hk.out hd28 hrow28 (by rw [secV_len]; kernel_rfl) ?_)
  refine (Keys_any k H E1.out (by omega) v6).mono ?_
  rintro e v7 ⟨⟨v10, vs, rfl, ha10, hins⟩, hb_⟩
  replace HB := Lib.hid (HB.out.trans (hb_.mono HB.out.size))
  replace Hg := Lib.hid (Hg.out.below hb_)
  replace HBX8 := Lib.hid (HBX8.out.below hb_ HBX8.out.lt)
  replace Hb := Lib.hid (Hb.out.below hb_)
  clear hb_
  clear Hk
  rw [← HM.out] at ha10 hins
  obtain ⟨CS, hCS⟩ : ∃ CS, CS = keysS k.s M := ⟨_, rfl⟩
  rw [← hCS] at hins
  obtain ⟨A10, c10, rfl, hc10, hr10⟩ := ha10.rd
  have hcl : CS.length = M := by rw [hCS, keysS_len]
  have Hls := Lib.hid (show Lst _ A10 M CS from ⟨vs, hr10, hcl, fun j v c hv hc => ⟨(hins.2 j v c hv hc).1.rd, (hins.2 j v c hv hc).2⟩⟩)
  have Hvs := Lib.hid hr10
  obtain ⟨CK, hCK⟩ : ∃ CK, CK = chunkS k.s (UInt8.ofNat N) := ⟨_, rfl⟩
  have hat : CS[N]? = some CK := by rw [hCS, hCK]; exact keysS_at k.s hNM
  have hvl : vs.length = M := by have := hr10.1; rw [List.length_map] at this; omega
  obtain ⟨v, hvN⟩ : ∃ v, vs[N]? = some v := ⟨_, List.getElem?_eq_getElem (by omega)⟩
  have Hv := Lib.hid (hins.2 N v CK hvN hat).1.rd
  have HCl := Lib.hid (show ∀ x ∈ CS, x.length ≤ 8796093021000 from fun x hx => by rw [hCS] at hx; unfold keysS at hx; obtain ⟨j, _, rfl⟩ := List.mem_map.1 hx; show (chunkK _ _ 67).length ≤ _; rw [chunkK_len]; omega)
  have HvN := Lib.hid hvN
  have HCS := Lib.hid hCS
  have HCK := Lib.hid hCK
  have Hat := Lib.hid hat
  obtain ⟨qb, qo, rfl, _⟩ := hr10.2.2 (by omega)
  clear ha10 hins hr10 hCS hCK hat hvl hvN
  have Hk := Lib.hid (Blk.range HBX8.out)
  have hp : pubS k = (root CS, 0) := by unfold pubS; rw [if_pos HV.out, toNat_of E1.out, ← HM.out, ← HCS.out]
  obtain ⟨P, hP⟩ : ∃ P, P = root CS := ⟨_, rfl⟩
  rw [← hP] at hp
  have HP := Lib.hid hP
  clear hP
  go_upto_region 8 with (refine wpList_load_mid rfl 28 (.tmp 8) rfl X8 0 rfl (secV k) d28 Hk.out hd28 hrow28 (by rw [secV_len]; kernel_rfl) ?_)
  refine (Public_any k v7 Hg.out).mono ?_
  rintro e v8 ⟨rfl, hb_⟩
  replace HB := Lib.hid (HB.out.trans (hb_.mono HB.out.size))
  replace Hg := Lib.hid (Hg.out.below hb_)
  replace HBX8 := Lib.hid (HBX8.out.below hb_ HBX8.out.lt)
  replace Hb := Lib.hid (Hb.out.below hb_)
  replace Hls := Lib.hid (Hls.out.below hb_)
  replace Hvs := Lib.hid (Hvs.out.below hb_)
  replace Hv := Lib.hid (Hv.out.below hb_)
  clear hb_
  rw [hp]
  clear Hk hp
  obtain ⟨v9a, hv9a⟩ : ∃ v, v = (v8.alloc (.cells zero32 26)) := ⟨_, rfl⟩
  obtain ⟨X11, hX11⟩ : ∃ v, v = v8.heap.size := ⟨_, rfl⟩
  have hNX11 : Blk (v8.alloc (.cells zero32 26)) X11 26 zero32 := by
    have := Blk.new v8 26 zero32
    skip
    rw [hX11]; exact this
  rw [← hv9a] at hNX11
  have hbA : Below v8.heap.size v8 v9a := by
    rw [hv9a]; exact (Below.refl _ _).alloc (by simp) _
  have HNX11 := Lib.hid hNX11
  have hkX11 := (KeptIn.refl (fun b => b ≠ X11) v9a).setRow (g := X11) (fun h => h rfl) (sumC P).toArray
  replace hNX11 : Blk (v9a.setRow X11 (sumC P).toArray) X11 26 (sumC P).toArray := setRow_heap _ _ _ _ _ _ HNX11.out
  obtain ⟨v9, hv9⟩ : ∃ v, v = (v9a.setRow X11 (sumC P).toArray) := ⟨_, rfl⟩
  have hbB : Below v8.heap.size v8 v9 := by rw [hv9]; exact (Below.setRow hbA (show v8.heap.size ≤ X11 by omega) _)
  rw [← hv9] at hNX11
  have HBX11 := Lib.hid hNX11
  have Hv9a := Lib.hid hv9a
  have Hv9 := Lib.hid hv9
  have HEX11 := Lib.hid hX11
  clear hNX11 hkX11 hv9a hv9 hbA
  have hlX11 : w.heap.size ≤ X11 := by have := HB.out.size; omega
  have hoX8X11 : X8 < X11 := by have := HBX8.out.lt; omega
  clear hX11
  go_upto_region 8 with (first | (refine wpList_alloc0 rfl 26 rfl zero32 _ i32 hi32 hz32 rfl ?_; simp only [Act.put, List.setIfInBounds_toArray, List.set_cons_succ, List.set_cons_zero]; try simp only [World.size_alloc]) | (rw [← Hv9a.out, ← HEX11.out]; refine wpList_store_row rfl 26 (.tmp 11) (.tmp 40) rfl X11 (sumC P).toArray rfl rfl 26 _ HNX11.out (size32 _ (sum_size _)) ((zero32_size).trans (sum_size _).symm) (all_oneCell_toArray (oneB _)) ?_; rw [← Hv9.out]))
  replace HB := Lib.hid (HB.out.trans (hbB.mono HB.out.size))
  replace Hg := Lib.hid (Hg.out.below hbB)
  replace HBX8 := Lib.hid (HBX8.out.below hbB HBX8.out.lt)
  replace Hb := Lib.hid (Hb.out.below hbB)
  replace Hls := Lib.hid (Hls.out.below hbB)
  replace Hvs := Lib.hid (Hvs.out.below hbB)
  replace Hv := Lib.hid (Hv.out.below hbB)
  clear hbB
  clear HNX11 HEX11 Hv9a Hv9
  have Hk := Lib.hid (Blk.range HBX8.out)
  go_upto_region 9 with (refine wpList_load_mid rfl 28 (.tmp 8) rfl X8 0 rfl (secV k) d28 Hk.out hd28 hrow28 (by rw [secV_len]; kernel_rfl) ?_)
  have hmade := made_any k A len' cap B v9 Hg.out Hb.out (by omega)
  rw [sign_of B HV.out E3.out (toNat_of E1.out) (HM.out ▸ hNM), ← HM.out, ← HCS.out] at hmade
  obtain ⟨ch, hch⟩ : ∃ ch, ch = chainK k.s (UInt8.ofNat N) (digS B) 67 := ⟨_, rfl⟩
  obtain ⟨pa, hpa⟩ : ∃ pa, pa = proofL (CS.map leafS) N := ⟨_, rfl⟩
  rw [← hch, ← hpa] at hmade
  dsimp only at hmade
  have Hend := Lib.hid (show endK (digS B) ch 67 = CK by rw [hch, HCK.out]; exact endS_sign k.s B (UInt8.ofNat N) [] 0)
  have Hch := Lib.hid (show ch.length = 67 by rw [hch, chainK_len])
  have Hpal := Lib.hid (show pa.length = H by rw [hpa]; exact proofL_exact H _ N (by rw [List.length_map, hcl, HM.out]) (by rw [List.length_map, hcl]; exact hNM))
  have Hpa := Lib.hid hpa
  have Hmade := Lib.hid hmade
  clear hmade hch hpa Hk
  refine (Hmade.out).mono ?_
  rintro e v10 ⟨⟨C, n, c, D, m, d, rfl, hnc, hmd, hC, hD⟩, hb_⟩
  replace HB := Lib.hid (HB.out.trans (hb_.mono HB.out.size))
  replace Hg := Lib.hid (Hg.out.below hb_)
  replace HBX8 := Lib.hid (HBX8.out.below hb_ HBX8.out.lt)
  replace Hb := Lib.hid (Hb.out.below hb_)
  replace Hls := Lib.hid (Hls.out.below hb_)
  replace Hvs := Lib.hid (Hvs.out.below hb_)
  replace Hv := Lib.hid (Hv.out.below hb_)
  replace HBX11 := Lib.hid (HBX11.out.below hb_ HBX11.out.lt)
  clear hb_
  have hn := hC.1.lenf sumC_len (by omega)
  have hm := hD.1.lenf sumC_len (by omega)
  rw [Hch.out] at hn
  subst hn
  have HC := Lib.hid hC
  have HD := Lib.hid hD
  clear hC hD Hmade
  obtain ⟨k2, hk2⟩ : ∃ k2 : Sc, k2 = ⟨k.s, k.h, (N : Int) + 1⟩ := ⟨_, rfl⟩
  rw [← hk2]
  clear hk2
  obtain ⟨v11a, hv11a⟩ : ∃ v, v = (v10.alloc (.cells (sgnV 0 none 0 0 none 0 0 sc0 0).toArray 39)) := ⟨_, rfl⟩
  obtain ⟨X13, hX13⟩ : ∃ v, v = v10.heap.size := ⟨_, rfl⟩
  have hNX13 : Blk (v10.alloc (.cells (sgnV 0 none 0 0 none 0 0 sc0 0).toArray 39)) X13 39 (sgnV 0 none 0 0 none 0 0 sc0 0).toArray := by
    have := Blk.new v10 39 (sgnV 0 none 0 0 none 0 0 sc0 0).toArray
    skip
    rw [hX13]; exact this
  rw [← hv11a] at hNX13
  have hbA : Below v10.heap.size v10 v11a := by
    rw [hv11a]; exact (Below.refl _ _).alloc (by simp) _
  have HNX13 := Lib.hid hNX13
  have hkX13 := (KeptIn.refl (fun b => b ≠ X13) v11a).setRow (g := X13) (fun h => h rfl) (sgnV (N : Int) C 67 c D m d k2 0).toArray
  replace hNX13 : Blk (v11a.setRow X13 (sgnV (N : Int) C 67 c D m d k2 0).toArray) X13 39 (sgnV (N : Int) C 67 c D m d k2 0).toArray := setRow_heap _ _ _ _ _ _ HNX13.out
  obtain ⟨v11, hv11⟩ : ∃ v, v = (v11a.setRow X13 (sgnV (N : Int) C 67 c D m d k2 0).toArray) := ⟨_, rfl⟩
  have hbB : Below v10.heap.size v10 v11 := by rw [hv11]; exact (Below.setRow hbA (show v10.heap.size ≤ X13 by omega) _)
  rw [← hv11] at hNX13
  have HBX13 := Lib.hid hNX13
  have Hv11a := Lib.hid hv11a
  have Hv11 := Lib.hid hv11
  have HEX13 := Lib.hid hX13
  clear hNX13 hkX13 hv11a hv11 hbA
  have hlX13 : w.heap.size ≤ X13 := by have := HB.out.size; omega
  have hoX8X13 : X8 < X13 := by have := HBX8.out.lt; omega
  have hoX11X13 : X11 < X13 := by have := HBX11.out.lt; omega
  clear hX13
  go_upto_region 9 with (first | (refine wpList_alloc0 rfl 39 rfl (sgnV 0 none 0 0 none 0 0 sc0 0).toArray _ i39 hi39 hz39 rfl ?_; simp only [Act.put, List.setIfInBounds_toArray, List.set_cons_succ, List.set_cons_zero]; try simp only [World.size_alloc]) | (rw [← Hv11a.out, ← HEX13.out]; refine wpList_store_row rfl 39 (.tmp 13) (.tmp 44) rfl X13 (sgnV (N : Int) C 67 c D m d k2 0).toArray rfl rfl 39 _ HNX13.out (size39 _ (sgn_size _ _ _ _ _ _ _ _ _)) ((sgn_size _ _ _ _ _ _ _ _ _).trans (sgn_size _ _ _ _ _ _ _ _ _).symm) (sgn_one _ _ _ _ _ _ _ _ _) ?_; rw [← Hv11.out]))
  replace HB := Lib.hid (HB.out.trans (hbB.mono HB.out.size))
  replace Hg := Lib.hid (Hg.out.below hbB)
  replace HBX8 := Lib.hid (HBX8.out.below hbB HBX8.out.lt)
  replace Hb := Lib.hid (Hb.out.below hbB)
  replace Hls := Lib.hid (Hls.out.below hbB)
  replace Hvs := Lib.hid (Hvs.out.below hbB)
  replace Hv := Lib.hid (Hv.out.below hbB)
  replace HBX11 := Lib.hid (HBX11.out.below hbB HBX11.out.lt)
  replace HC := Lib.hid (HC.out.below hbB)
  replace HD := Lib.hid (HD.out.below hbB)
  clear hbB
  clear HNX13 HEX13 Hv11a Hv11
  have hH4 := Hpal.out
  have f1 := sgn_st HBX13.out
  have Hsg := Lib.hid (sgn_sig HBX13.out)
  have hform : formB (N : Int) 67 m = true := by unfold formB; rw [decide_eq_true_eq]; refine ⟨rfl, by omega, by omega, ?_⟩; rw [← hm, Hpal.out]; have := HM.out ▸ hNM; exact_mod_cast this
  go_wp2_with (refine wpList_load_mid_g (by first | rfl | simp [Region.wanted, yielded]) 37 (.tmp 53) rfl X13 0 rfl (sgV (N : Int) C 67 c D m d) d37 Hsg.out hd37 hrow37 (by rw [sgV_len]; kernel_rfl) ?_)
  refine (RFormed_any (N : Int) C 67 c D m d v11).mono ?_
  rintro e v12 ⟨rfl, hb_⟩
  replace HB := Lib.hid (HB.out.trans (hb_.mono HB.out.size))
  replace Hg := Lib.hid (Hg.out.below hb_)
  replace HBX8 := Lib.hid (HBX8.out.below hb_ HBX8.out.lt)
  replace Hb := Lib.hid (Hb.out.below hb_)
  replace Hls := Lib.hid (Hls.out.below hb_)
  replace Hvs := Lib.hid (Hvs.out.below hb_)
  replace Hv := Lib.hid (Hv.out.below hb_)
  replace HBX11 := Lib.hid (HBX11.out.below hb_ HBX11.out.lt)
  replace HC := Lib.hid (HC.out.below hb_)
  replace HD := Lib.hid (HD.out.below hb_)
  replace HBX13 := Lib.hid (HBX13.out.below hb_ HBX13.out.lt)
  clear hb_
  rw [hform]
  clear f1 Hsg hform
  have c2 : v12.cell? ⟨X8, 33, none⟩ = some (.int .i64 (N : Int)) := by rw [HBX8.out.cell, List.getElem?_toArray, sec_n, E3.out]
  go_wp2_with fail
  refine (Proof_own (some ⟨qb, qo, none⟩) M c10 N CS v12 Hg.out Hls.out (by omega) (fun x hx => by have := HCl.out x hx; omega) hNM).mono ?_
  rintro e v13 ⟨A14, n14, c14, rfl, hnc14, hown, hb_⟩
  replace HB := Lib.hid (HB.out.trans (hb_.mono HB.out.size))
  replace Hg := Lib.hid (Hg.out.below hb_)
  replace HBX8 := Lib.hid (HBX8.out.below hb_ HBX8.out.lt)
  replace Hb := Lib.hid (Hb.out.below hb_)
  replace Hls := Lib.hid (Hls.out.below hb_)
  replace Hvs := Lib.hid (Hvs.out.below hb_)
  replace Hv := Lib.hid (Hv.out.below hb_)
  replace HBX11 := Lib.hid (HBX11.out.below hb_ HBX11.out.lt)
  replace HC := Lib.hid (HC.out.below hb_)
  replace HD := Lib.hid (HD.out.below hb_)
  replace HBX13 := Lib.hid (HBX13.out.below hb_ HBX13.out.lt)
  clear hb_
  rw [← Hpa.out] at hown
  have H14 := Lib.hid (Rd.of_own hown)
  have hn14 := H14.out.lenf sumC_len (by omega)
  clear hown c2
  go_upto_region 12 with fail
  have hz1 := run_eql_sum P P
  rw [show decide (P = P) = true from decide_eq_true rfl] at hz1
  have hk67 : (N : Int) < (M : Int) := by omega
  have hk0 : (0 : Int) ≤ (N : Int) := by omega
  refine wp_region_flowF [65, 66, 67, 68, 69, 70, 71, 72, 73, 74, 75, 76, 77, 78, 79, 80, 81, 82, 83, 84, 85, 86, 87, 88, 89, 90, 91, 92, 93, 94, 95, 96, 6] [(Spec.is (.bool true), false), (Spec.is (.bool true), false), (Spec.is (.int .i64 0), false), (Spec.is (.bool true), false), (Spec.is (.bool true), false), (Spec.is (.bool true), false), (Spec.is (.slice (some ⟨qb, qo, none⟩) M c10), false), (Spec.is (.agg (sumC P).toArray), false), (Spec.is (.agg (sumC P).toArray), false), (Spec.is (.bool true), false), (Spec.is (.bool true), false), (Spec.is (.bool true), false), (Spec.is (.slice A14 n14 c14), false), (Spec.is (.pointer (some ⟨X13, 0, none⟩)), false), (Spec.is (.pointer (some ⟨X13, 2, none⟩)), false), (Spec.is (.slice D m d), false), (Spec.is (.bool true), false), (Spec.is (.bool true), false), (Spec.is (.bool true), false), (Spec.is (.slice A len' cap), false), (Spec.is (.pointer (some ⟨X13, 0, none⟩)), false), (Spec.is (.agg (sgV (N : Int) C 67 c D m d).toArray), false), (spSl CK, false), (Spec.is (.string (str CK)), false), (Spec.is (.slice (some ⟨qb, qo, none⟩) M c10), false), (Spec.is (.pointer (some ⟨X8, 33, none⟩)), false), (Spec.is (.int .i64 (N : Int)), false), (Spec.is (.pointer (some ⟨qb, qo + N, none⟩)), false), (Spec.is (slV v), false), (Spec.is (.string (str CK)), false), (Spec.is (.bool true), false), (Spec.is (.bool true), false), (Spec.is (.bool true), false)] 97 (by kernel_rfl) rfl (by decide) rfl (by decide) (by kernel_rfl) ?_ ?_
  · refine ⟨?_, ?_, ?_, ?_, ?_, ?_, ?_, ?_, ?_, ?_, ?_, ?_, ?_, ?_, ?_, ?_, ?_, ?_, ?_, ?_, ?_, ?_, ?_, ?_, ?_, ?_, ?_, ?_, ?_, ?_, ?_, ?_, ?_, trivial⟩
    · intro a W hE hb hs
      have h7 : a.eval (.tmp 7) = .bool true := hb 7 (by decide)
      refine flow0 rfl ?_
      exact val_move _ rfl _ h7 ⟨rfl, trivial⟩
    · intro a W hE hb hs
      have h65 : a.eval (.tmp 65) = .bool true := hs 0 (by decide)
      refine flow0 rfl ?_
      exact val_move _ rfl _ h65 ⟨rfl, trivial⟩
    · intro a W hE hb hs
      have h15 : a.eval (.tmp 15) = .int .i64 0 := hb 15 (by decide)
      have h66 : a.eval (.tmp 66) = .bool true := hs 1 (by decide)
      refine flowY rfl rfl h66 ?_
      exact val_move _ rfl _ h15 ⟨rfl, trivial⟩
    · intro a W hE hb hs
      have h67 : a.eval (.tmp 67) = .int .i64 0 := hs 2 (by decide)
      have h66 : a.eval (.tmp 66) = .bool true := hs 1 (by decide)
      refine flowY rfl rfl h66 ?_
      intro K hK
      unfold Oper.wp execOp
      simp only [h67, BigFrame.eval_const]
      simp [go_sem]
      exact hK _ _ ⟨Below.refl _ _, rfl, trivial⟩
    · intro a W hE hb hs
      have h66 : a.eval (.tmp 66) = .bool true := hs 1 (by decide)
      have h68 : a.eval (.tmp 68) = .bool true := hs 3 (by decide)
      refine flow0 rfl ?_
      exact val_pick _ _ _ rfl true h66 _ (by rw [if_pos rfl]; exact h68) ⟨rfl, trivial⟩
    · intro a W hE hb hs
      have h69 : a.eval (.tmp 69) = .bool true := hs 4 (by decide)
      refine flow0 rfl ?_
      exact val_move _ rfl _ h69 ⟨rfl, trivial⟩
    · intro a W hE hb hs
      have h10 : a.eval (.tmp 10) = .slice (some ⟨qb, qo, none⟩) M c10 := hb 10 (by decide)
      have h70 : a.eval (.tmp 70) = .bool true := hs 5 (by decide)
      refine flowY rfl rfl h70 ?_
      exact val_move _ rfl _ h10 ⟨rfl, trivial⟩
    · intro a W hE hb hs
      have h71 : a.eval (.tmp 71) = .slice (some ⟨qb, qo, none⟩) M c10 := hs 6 (by decide)
      have h70 : a.eval (.tmp 70) = .bool true := hs 5 (by decide)
      refine flowY rfl rfl h70 ?_
      exact val_call 28 _ _ rfl (by kernel_rfl) [.slice (some ⟨qb, qo, none⟩) M c10] (by show [a.eval (.tmp 71)] = _; rw [h71]) ((Root_any (some ⟨qb, qo, none⟩) M c10 CS W (Hg.out.below (ext_below hE)) (Hls.out.below (ext_below hE)) (by omega) (fun x hx => by have := HCl.out x hx; omega)).mono (by rw [← HP.out]; rintro e W' ⟨rfl, hb⟩; exact ⟨_, rfl, hb, rfl, trivial⟩))
    · intro a W hE hb hs
      have h11 : a.eval (.tmp 11) = .pointer (some ⟨X11, 0, none⟩) := hb 11 (by decide)
      have h70 : a.eval (.tmp 70) = .bool true := hs 5 (by decide)
      refine flowY rfl rfl h70 ?_
      exact val_load_row 26 _ rfl X11 0 h11 (sumC P) _ (Blk.range (HBX11.out.below (ext_below hE) HBX11.out.lt)) und32 rfl (by rw [sumC_len]; kernel_rfl) ⟨rfl, trivial⟩
    · intro a W hE hb hs
      have h72 : a.eval (.tmp 72) = .agg (sumC P).toArray := hs 7 (by decide)
      have h73 : a.eval (.tmp 73) = .agg (sumC P).toArray := hs 8 (by decide)
      have h70 : a.eval (.tmp 70) = .bool true := hs 5 (by decide)
      refine flowY rfl rfl h70 ?_
      intro K hK
      unfold Oper.wp execOp
      simp only [h72, h73]
      simp [go_sem, hz1]
      exact hK _ _ ⟨Below.refl _ _, rfl, trivial⟩
    · intro a W hE hb hs
      have h70 : a.eval (.tmp 70) = .bool true := hs 5 (by decide)
      have h74 : a.eval (.tmp 74) = .bool true := hs 9 (by decide)
      refine flow0 rfl ?_
      exact val_pick _ _ _ rfl true h70 _ (by rw [if_pos rfl]; exact h74) ⟨rfl, trivial⟩
    · intro a W hE hb hs
      have h75 : a.eval (.tmp 75) = .bool true := hs 10 (by decide)
      refine flow0 rfl ?_
      exact val_move _ rfl _ h75 ⟨rfl, trivial⟩
    · intro a W hE hb hs
      have h14 : a.eval (.tmp 14) = .slice A14 n14 c14 := hb 14 (by decide)
      have h76 : a.eval (.tmp 76) = .bool true := hs 11 (by decide)
      refine flowY rfl rfl h76 ?_
      exact val_move _ rfl _ h14 ⟨rfl, trivial⟩
    · intro a W hE hb hs
      have h13 : a.eval (.tmp 13) = .pointer (some ⟨X13, 0, none⟩) := hb 13 (by decide)
      have h76 : a.eval (.tmp 76) = .bool true := hs 11 (by decide)
      refine flowY rfl rfl h76 ?_
      intro K hK
      unfold Oper.wp execOp
      simp only [h13]
      simp [go_sem]
      exact hK _ _ ⟨Below.refl _ _, rfl, trivial⟩
    · intro a W hE hb hs
      have h78 : a.eval (.tmp 78) = .pointer (some ⟨X13, 0, none⟩) := hs 13 (by decide)
      have h76 : a.eval (.tmp 76) = .bool true := hs 11 (by decide)
      refine flowY rfl rfl h76 ?_
      intro K hK
      unfold Oper.wp execOp
      simp only [h78]
      simp [go_sem]
      exact hK _ _ ⟨Below.refl _ _, rfl, trivial⟩
    · intro a W hE hb hs
      have h79 : a.eval (.tmp 79) = .pointer (some ⟨X13, 2, none⟩) := hs 14 (by decide)
      have h76 : a.eval (.tmp 76) = .bool true := hs 11 (by decide)
      refine flowY rfl rfl h76 ?_
      have g0 : W.cell? ⟨X13, 2, none⟩ = some (.slice D m d) := by rw [(HBX13.out.below (ext_below hE) HBX13.out.lt).cell]; rfl
      intro K hK
      unfold Oper.wp execOp
      simp only [h79]
      simp [go_sem, g0]
      exact hK _ _ ⟨Below.refl _ _, rfl, trivial⟩
    · intro a W hE hb hs
      have h77 : a.eval (.tmp 77) = .slice A14 n14 c14 := hs 12 (by decide)
      have h80 : a.eval (.tmp 80) = .slice D m d := hs 15 (by decide)
      have h76 : a.eval (.tmp 76) = .bool true := hs 11 (by decide)
      refine flowY rfl rfl h76 ?_
      exact val_call 29 _ _ rfl (by kernel_rfl) [.slice A14 n14 c14, .slice D m d] (by show [a.eval (.tmp 77), a.eval (.tmp 80)] = _; rw [h77, h80]) ((SameSums_any A14 D n14 m c14 d pa pa W (H14.out.below (ext_below hE)) (HD.out.below (ext_below hE)).1 (by omega) (by omega)).mono (by rw [decide_eq_true rfl]; rintro e W' ⟨rfl, hb⟩; exact ⟨_, rfl, hb, rfl, trivial⟩))
    · intro a W hE hb hs
      have h76 : a.eval (.tmp 76) = .bool true := hs 11 (by decide)
      have h81 : a.eval (.tmp 81) = .bool true := hs 16 (by decide)
      refine flow0 rfl ?_
      exact val_pick _ _ _ rfl true h76 _ (by rw [if_pos rfl]; exact h81) ⟨rfl, trivial⟩
    · intro a W hE hb hs
      have h82 : a.eval (.tmp 82) = .bool true := hs 17 (by decide)
      refine flow0 rfl ?_
      exact val_move _ rfl _ h82 ⟨rfl, trivial⟩
    · intro a W hE hb hs
      have h9 : a.eval (.tmp 9) = .slice A len' cap := hb 9 (by decide)
      have h83 : a.eval (.tmp 83) = .bool true := hs 18 (by decide)
      refine flowY rfl rfl h83 ?_
      exact val_move _ rfl _ h9 ⟨rfl, trivial⟩
    · intro a W hE hb hs
      have h13 : a.eval (.tmp 13) = .pointer (some ⟨X13, 0, none⟩) := hb 13 (by decide)
      have h83 : a.eval (.tmp 83) = .bool true := hs 18 (by decide)
      refine flowY rfl rfl h83 ?_
      intro K hK
      unfold Oper.wp execOp
      simp only [h13]
      simp [go_sem]
      exact hK _ _ ⟨Below.refl _ _, rfl, trivial⟩
    · intro a W hE hb hs
      have h85 : a.eval (.tmp 85) = .pointer (some ⟨X13, 0, none⟩) := hs 20 (by decide)
      have h83 : a.eval (.tmp 83) = .bool true := hs 18 (by decide)
      refine flowY rfl rfl h83 ?_
      exact val_load_row 37 _ rfl X13 0 h85 (sgV (N : Int) C 67 c D m d) d37 (sgn_sig (HBX13.out.below (ext_below hE) HBX13.out.lt)) hd37 hrow37 (by rw [sgV_len]; kernel_rfl) ⟨rfl, trivial⟩
    · intro a W hE hb hs
      have h84 : a.eval (.tmp 84) = .slice A len' cap := hs 19 (by decide)
      have h86 : a.eval (.tmp 86) = .agg (sgV (N : Int) C 67 c D m d).toArray := hs 21 (by decide)
      have h83 : a.eval (.tmp 83) = .bool true := hs 18 (by decide)
      refine flowY rfl rfl h83 ?_
      exact val_call 30 _ _ rfl (by kernel_rfl) [.slice A len' cap, .agg (sgV (N : Int) C 67 c D m d).toArray] (by show [a.eval (.tmp 84), a.eval (.tmp 86)] = _; rw [h84, h86]) ((REnds_any A len' cap B (N : Int) C D c m d ch W (Hb.out.below (ext_below hE)) (by omega) (HC.out.below (ext_below hE)).1).mono (by rw [Hend.out]; rintro e W' ⟨⟨A', c', rfl, _, hr⟩, hb⟩; exact ⟨_, rfl, hb, ⟨A', 2144, c', rfl, hr⟩, trivial⟩))
    · intro a W hE hb hs
      have h87 : ∃ (A : Option Addr) (n c : Nat), (a.eval (.tmp 87)) = .slice A n c ∧ Rd W 1 A n (CK.map byteV) := hs 22 (by decide)
      have h83 : a.eval (.tmp 83) = .bool true := hs 18 (by decide)
      refine flowY rfl rfl h83 ?_
      obtain ⟨A', n', c', e87, hr87⟩ := h87
      have hcv := convert_bytes A' n' c' CK W hr87
      intro K hK
      unfold Oper.wp execOp
      simp only [e87]
      simp [go_sem, hcv]
      exact hK _ _ ⟨Below.refl _ _, rfl, trivial⟩
    · intro a W hE hb hs
      have h10 : a.eval (.tmp 10) = .slice (some ⟨qb, qo, none⟩) M c10 := hb 10 (by decide)
      have h83 : a.eval (.tmp 83) = .bool true := hs 18 (by decide)
      refine flowY rfl rfl h83 ?_
      exact val_move _ rfl _ h10 ⟨rfl, trivial⟩
    · intro a W hE hb hs
      have h8 : a.eval (.tmp 8) = .pointer (some ⟨X8, 0, none⟩) := hb 8 (by decide)
      have h83 : a.eval (.tmp 83) = .bool true := hs 18 (by decide)
      refine flowY rfl rfl h83 ?_
      intro K hK
      unfold Oper.wp execOp
      simp only [h8]
      simp [go_sem]
      exact hK _ _ ⟨Below.refl _ _, rfl, trivial⟩
    · intro a W hE hb hs
      have h90 : a.eval (.tmp 90) = .pointer (some ⟨X8, 33, none⟩) := hs 25 (by decide)
      have h83 : a.eval (.tmp 83) = .bool true := hs 18 (by decide)
      refine flowY rfl rfl h83 ?_
      have g0 : W.cell? ⟨X8, 33, none⟩ = some (.int .i64 (N : Int)) := by rw [(HBX8.out.below (ext_below hE) HBX8.out.lt).cell, List.getElem?_toArray, sec_n, E3.out]
      intro K hK
      unfold Oper.wp execOp
      simp only [h90]
      simp [go_sem, g0]
      exact hK _ _ ⟨Below.refl _ _, rfl, trivial⟩
    · intro a W hE hb hs
      have h89 : a.eval (.tmp 89) = .slice (some ⟨qb, qo, none⟩) M c10 := hs 24 (by decide)
      have h91 : a.eval (.tmp 91) = .int .i64 (N : Int) := hs 26 (by decide)
      have h83 : a.eval (.tmp 83) = .bool true := hs 18 (by decide)
      refine flowY rfl rfl h83 ?_
      intro K hK
      unfold Oper.wp execOp
      simp only [h89, h91]
      simp [go_sem, hk67, hk0]
      exact hK _ _ ⟨Below.refl _ _, rfl, trivial⟩
    · intro a W hE hb hs
      have h92 : a.eval (.tmp 92) = .pointer (some ⟨qb, qo + N, none⟩) := hs 27 (by decide)
      have h83 : a.eval (.tmp 83) = .bool true := hs 18 (by decide)
      refine flowY rfl rfl h83 ?_
      have g0 : W.cell? ⟨qb, qo + N, none⟩ = some (slV v) := by
        obtain ⟨b', o', u, e1, e2, e3⟩ := (Hvs.out.below (ext_below hE)).at_ (k := N) hNM
        cases e1
        rw [HvN.out] at e2
        cases e2
        exact e3
      intro K hK
      unfold Oper.wp execOp
      simp only [h92]
      simp [go_sem, g0]
      exact hK _ _ ⟨Below.refl _ _, rfl, trivial⟩
    · intro a W hE hb hs
      have h93 : a.eval (.tmp 93) = slV v := hs 28 (by decide)
      have h83 : a.eval (.tmp 83) = .bool true := hs 18 (by decide)
      refine flowY rfl rfl h83 ?_
      have hcv := convert_bytes v.a v.n v.c CK W (Hv.out.below (ext_below hE))
      intro K hK
      unfold Oper.wp execOp
      simp only [h93]
      simp [go_sem, slV, hcv]
      exact hK _ _ ⟨Below.refl _ _, rfl, trivial⟩
    · intro a W hE hb hs
      have h88 : a.eval (.tmp 88) = .string (str CK) := hs 23 (by decide)
      have h94 : a.eval (.tmp 94) = .string (str CK) := hs 29 (by decide)
      have h83 : a.eval (.tmp 83) = .bool true := hs 18 (by decide)
      refine flowY rfl rfl h83 ?_
      intro K hK
      unfold Oper.wp execOp
      simp only [h88, h94]
      simp [go_sem]
      exact hK _ _ ⟨Below.refl _ _, rfl, trivial⟩
    · intro a W hE hb hs
      have h83 : a.eval (.tmp 83) = .bool true := hs 18 (by decide)
      have h95 : a.eval (.tmp 95) = .bool true := hs 30 (by decide)
      refine flow0 rfl ?_
      exact val_pick _ _ _ rfl true h83 _ (by rw [if_pos rfl]; exact h95) ⟨rfl, trivial⟩
    · intro a W hE hb hs
      have h96 : a.eval (.tmp 96) = .bool true := hs 31 (by decide)
      refine flow0 rfl ?_
      exact val_assign _ rfl _ h96 ⟨rfl, trivial⟩
  intro f W hb hT hp hd
  have e6 : f 6 = .bool true := hT 32 (by decide)
  simp only [putV, List.foldl_cons, List.foldl_nil, Act.put, List.setIfInBounds_toArray, List.set_cons_succ, List.set_cons_zero, Exit.then]
  rw [e6]
  have HE := Lib.hid (HB.out.trans (hb.mono HB.out.size))
  clear hb hT hp hd e6
  go_wp2_with fail
  go_ret
  exact ⟨rfl, HE.out⟩
end Go.Proofs.YtfdhiilhjfbehaaDoor
