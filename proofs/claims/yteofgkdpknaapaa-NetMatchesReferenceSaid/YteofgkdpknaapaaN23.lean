/- Package net: the reference's sameSigned. -/
import Derived.Test.YteofgkdpknaapaaN22
import Derived.Test.YteofgkdpknaapaaN15
import Derived.Laws.BytesArg
namespace Go.Proofs.Yteofgkdpknaapaa
open Go.RowKit Go.Sort

def str (l : List UInt8) : ByteArray := ⟨l.toArray⟩
theorem und22s : Try.prog.underlying 26 = some (.slice 5) := Try.underlying26
theorem und5s : Try.prog.underlying 5 = some (.int .u8) := by kernel_rfl
theorem und9s : Try.prog.underlying 9 = some .string := by kernel_rfl
theorem convert_bytes (A : Option Addr) (n c : Nat) (bs : List UInt8) (w : World) (hr : Rd w 1 A n (bs.map byteV)) : (convert 26 9 (.slice A n c)).run Try.prog w = .ok (.string (str bs)) w := by
  have hl := hr.len1
  by_cases hn : 0 < n
  · obtain ⟨b, off, rfl, hc⟩ := hr.2.2 hn
    rw [run_convert_bytes_arg w 26 5 und22s und5s b off n c (bs.map fun b => (b.toNat : Int)) (by rw [List.length_map, hl]) (fun i hi => ?_) 9 und9s]
    · congr 2
      unfold strOfNums str
      congr 2
      rw [List.map_map]
      conv => rhs; rw [← List.map_id bs]
      refine List.map_congr_left fun b _ => ?_
      simp
    · refine hc i _ ?_
      rw [List.getD_eq_getElem?_getD, List.getElem?_map, List.getElem?_map, List.getElem?_eq_getElem (by omega)]
      rfl
  · obtain rfl : n = 0 := by omega
    obtain rfl : bs = [] := List.eq_nil_of_length_eq_zero hl
    cases A with
    | none => exact run_convert_bytes_nil w 26 5 und22s und5s 0 c 9 und9s
    | some a =>
      rw [run_convert_bytes_string w 26 9 5 _ 0 c und22s und5s und9s, run_bytesToString w a 0 c [] (by simp [loadCells, loadCellsFrom])]
      rfl
theorem str_beq (a b : List UInt8) : ((str a).toList == (str b).toList) = decide (a = b) := by
  rw [ByteArray.toList_eq, ByteArray.toList_eq]
  simp only [str]
  exact Bool.eq_iff_iff.2 (by simp)
instance sgEq : DecidableEq Sg := fun x y => decidable_of_iff (x.i = y.i ∧ x.ch = y.ch ∧ x.pa = y.pa) (by cases x; cases y; simp)
instance kyEq : DecidableEq Ky := fun x y => decidable_of_iff (x.k = y.k ∧ x.s = y.s) (by cases x; cases y; simp)
instance pkEq : DecidableEq Pk := fun x y => decidable_of_iff (x.kind = y.kind ∧ x.who = y.who ∧ x.n = y.n ∧ x.data = y.data ∧ x.proof = y.proof ∧ x.body = y.body ∧ x.sigs = y.sigs) (by cases x; cases y; simp)
def sdC (B : Option Addr) (n c : Nat) (S : Option Addr) (m d : Nat) : List Value := [.slice B n c, .slice S m d]
theorem take_eq_succ' {α : Type} {xs ys : List α} {k : Nat} (h : xs.take k = ys.take k) {x y : α} (hx : xs[k]? = some x) (hy : ys[k]? = some y) (e : x = y) : xs.take (k + 1) = ys.take (k + 1) := by
  rw [List.take_add_one, List.take_add_one, hx, hy, h, e]
theorem good_form {xs : List Ky} (h : ∀ x ∈ xs, goodK x = true) {j : Nat} {x : Ky} (hx : xs[j]? = some x) : x.s.ch.length = 67 ∧ x.s.pa.length ≤ 4 := by
  have hg := h x (List.mem_of_getElem? hx)
  have hf : formedS x.s = true := by unfold goodK at hg; simp at hg; exact hg.2
  obtain ⟨N, _, h1, h2, _⟩ := formedS_of hf
  exact ⟨h1, h2⟩
theorem ky_ext {x y : Ky} : x = y ↔ x.k = y.k ∧ x.s.i = y.s.i ∧ x.s.ch = y.s.ch ∧ x.s.pa = y.s.pa := by
  obtain ⟨k, i, c, p⟩ := x
  obtain ⟨k', i', c', p'⟩ := y
  simp
set_option maxRecDepth 100000 in
set_option maxHeartbeats 2000000 in
theorem sameSigned_any (B1 : Option Addr) (n1 c1 : Nat) (S1 : Option Addr) (m1 d1 : Nat) (b1 : List UInt8) (s1 : List Ky) (B2 : Option Addr) (n2 c2 : Nat) (S2 : Option Addr) (m2 d2 : Nat) (b2 : List UInt8) (s2 : List Ky) (w : World)
    (hb1 : Rd w 1 B1 n1 (b1.map byteV)) (hb2 : Rd w 1 B2 n2 (b2.map byteV)) (hs1 : SgsAt w S1 m1 s1) (hs2 : SgsAt w S2 m2 s2) (g1 : ∀ x ∈ s1, goodK x = true) (g2 : ∀ x ∈ s2, goodK x = true) (hm1 : m1 ≤ 100000) (hm2 : m2 ≤ 100000) :
    Calls Try.prog 35 #[.agg (sdC B1 n1 c1 S1 m1 d1).toArray, .agg (sdC B2 n2 c2 S2 m2 d2).toArray] w fun e w' => e = .returned (.bool (decide (b1 = b2 ∧ s1 = s2))) ∧ Below w.heap.size w w' := by
  obtain ⟨R, hR⟩ : ∃ R, R = decide (b1 = b2 ∧ s1 = s2) := ⟨_, rfl⟩
  rw [← hR]
  have HR := Lib.hid hR
  clear hR
  have hl1 := hs1.len
  have hl2 := hs2.len
  obtain ⟨w1, hw1⟩ : ∃ q, q = (w.alloc (.cells (sdC B1 n1 c1 S1 m1 d1).toArray 37)).alloc (.cells (sdC B2 n2 c2 S2 m2 d2).toArray 37) := ⟨_, rfl⟩
  have hB1 : Below w.heap.size w w1 := by rw [hw1]; exact ((Below.refl _ _).alloc (Nat.le_refl _) _).alloc (by simp) _
  have hX1 : Blk w1 w.heap.size 37 (sdC B1 n1 c1 S1 m1 d1).toArray := by rw [hw1]; exact (Blk.new _ _ _).alloc _
  have hY1 : Blk w1 (w.heap.size + 1) 37 (sdC B2 n2 c2 S2 m2 d2).toArray := by
    have := Blk.new (w.alloc (.cells (sdC B1 n1 c1 S1 m1 d1).toArray 37)) 37 (sdC B2 n2 c2 S2 m2 d2).toArray
    rw [World.size_alloc] at this
    rw [hw1]; exact this
  have x0 : w1.cell? ⟨w.heap.size, 0, none⟩ = some (.slice B1 n1 c1) := (hX1.cell 0).trans rfl
  have x1 : w1.cell? ⟨w.heap.size, 1, none⟩ = some (.slice S1 m1 d1) := (hX1.cell 1).trans rfl
  have y0 : w1.cell? ⟨w.heap.size + 1, 0, none⟩ = some (.slice B2 n2 c2) := (hY1.cell 0).trans rfl
  have y1 : w1.cell? ⟨w.heap.size + 1, 1, none⟩ = some (.slice S2 m2 d2) := (hY1.cell 1).trans rfl
  have hcx := convert_bytes B1 n1 c1 b1 w1 (hb1.below hB1)
  have hcy := convert_bytes B2 n2 c2 b2 w1 (hb2.below hB1)
  have hsb := str_beq b1 b2
  have HW1 := Lib.hid hw1
  have HX := Lib.hid hX1
  have HY := Lib.hid hY1
  have HB := Lib.hid hB1
  have HS1 := Lib.hid (hs1.below hB1)
  have HS2 := Lib.hid (hs2.below hB1)
  clear hw1 hX1 hY1 hB1 hb1 hb2 hs1 hs2
  go_enter Try.func35, Try.ntmps35
  go_upto_region 1 with fail
  rw [← HW1.out]
  by_cases hbb : b1 = b2
  rotate_left
  · have g : ((str b1).toList == (str b2).toList) = false := by rw [hsb]; exact decide_eq_false hbb
    have gb2 : ((str b1).toList != (str b2).toList) = true := by rw [bne, g]; rfl
    have Hr := Lib.hid (show R = false by rw [HR.out]; exact decide_eq_false (fun h => hbb h.1))
    clear hsb hbb
    go_wp2_with fail
    go_ret
    exact ⟨by rw [Hr.out]; rfl, HB.out⟩
  have g : ((str b1).toList == (str b2).toList) = true := by rw [hsb]; exact decide_eq_true hbb
  have gb2 : ((str b1).toList != (str b2).toList) = false := by rw [bne, g]; rfl
  have Hr1 := Lib.hid (show R = decide (s1 = s2) by rw [HR.out]; simp [hbb])
  clear hsb hbb HR
  by_cases hmm : m1 = m2
  rotate_left
  · have gm : ((m1 : Int) == (m2 : Int)) = false := by rw [beq_eq_false_iff_ne]; omega
    have gm2 : ¬ (m1 : Int) = (m2 : Int) := by omega
    have Hr := Lib.hid (show R = false by rw [Hr1.out]; exact decide_eq_false (fun h => hmm (by rw [← hl1, ← hl2, h])))
    clear hmm
    go_wp2_with fail
    go_ret
    exact ⟨by rw [Hr.out]; rfl, HB.out⟩
  subst hmm
  go_upto_region 4 with fail
  obtain ⟨d37, hd37, hrow37⟩ := und37
  go_loopw [5] (fun v5 wr => ∃ j : Nat, v5 = .int .i64 (j : Int) ∧ j ≤ m1 ∧ s1.take j = s2.take j ∧ Below w1.heap.size w1 wr) (fun v5 _ => m1 - (intOf v5).toNat)
  case atStart => exact ⟨0, rfl, Nat.zero_le _, rfl, Below.refl _ _⟩
  case round =>
    obtain ⟨j, rfl, hj, htk, hBr⟩ := hrel
    have x1 : wr.cell? ⟨w.heap.size, 1, none⟩ = some (.slice S1 m1 d1) := ((HX.out.below hBr HX.out.lt).cell 1).trans rfl
    have HBr := Lib.hid hBr
    have Htk := Lib.hid htk
    clear hBr htk x0 y0 y1 hcx hcy g gb2
    by_cases hlt : j < m1
    · have dj : decide ((j : Int) < (m1 : Int)) = true := decide_eq_true (by omega)
      have hj1 : (j : Int) < (m1 : Int) := by omega
      have hj2 := hj1
      have hj0 : (0 : Int) ≤ (j : Int) := by omega
      obtain ⟨ks1, hT1, hK1⟩ := HS1.out
      obtain ⟨ks2, hT2, hK2⟩ := HS2.out
      have hkl1 := hT1.1.lenf kvC_len (by omega)
      have hkl2 := hT2.1.lenf kvC_len (by omega)
      obtain ⟨kv1, hkv1⟩ : ∃ q, ks1[j]? = some q := ⟨_, List.getElem?_eq_getElem (by omega)⟩
      obtain ⟨kv2, hkv2⟩ : ∃ q, ks2[j]? = some q := ⟨_, List.getElem?_eq_getElem (by omega)⟩
      obtain ⟨ky1, hky1⟩ : ∃ q, s1[j]? = some q := ⟨_, List.getElem?_eq_getElem (by omega)⟩
      obtain ⟨ky2, hky2⟩ : ∃ q, s2[j]? = some q := ⟨_, List.getElem?_eq_getElem (by omega)⟩
      obtain ⟨cb1, co1, e1, _⟩ := hT1.1.2.2 (by omega)
      obtain ⟨cb2, co2, e2, _⟩ := hT2.1.2.2 (by omega)
      subst e1 e2
      have HXW : ∀ W, Below wr.heap.size wr W → W.cell? ⟨w.heap.size, 1, none⟩ = some (.slice (some ⟨cb1, co1, none⟩) m1 d1) ∧ W.cell? ⟨w.heap.size + 1, 1, none⟩ = some (.slice (some ⟨cb2, co2, none⟩) m1 d2) := fun W hW => by
        have h := HBr.out.trans (hW.mono HBr.out.size)
        exact ⟨((HX.out.below h HX.out.lt).cell 1).trans rfl, ((HY.out.below h HY.out.lt).cell 1).trans rfl⟩
      have HK1 : ∀ W, Below wr.heap.size wr W → W.rangeAt cb1 (co1 + j * 4) (kvC kv1) ∧ KvOk W kv1 ky1 := fun W hW => by
        have h := HBr.out.trans (hW.mono HBr.out.size)
        exact ⟨rd_row kvC_len (by omega) (hT1.below h).1 hkv1, (hK1.below h).2 j kv1 ky1 hkv1 hky1⟩
      have HK2 : ∀ W, Below wr.heap.size wr W → W.rangeAt cb2 (co2 + j * 4) (kvC kv2) ∧ KvOk W kv2 ky2 := fun W hW => by
        have h := HBr.out.trans (hW.mono HBr.out.size)
        exact ⟨rd_row kvC_len (by omega) (hT2.below h).1 hkv2, (hK2.below h).2 j kv2 ky2 hkv2 hky2⟩
      obtain ⟨f1, f2⟩ := good_form g1 hky1
      obtain ⟨f3, f4⟩ := good_form g2 hky2
      have hok1 := (HK1 wr (Below.refl _ _)).2
      have hok2 := (HK2 wr (Below.refl _ _)).2
      have hne : ¬ ky1 = ky2 → R = false := fun h => by
        rw [Hr1.out]
        refine decide_eq_false fun e => h ?_
        rw [e, hky2] at hky1
        exact (Option.some.inj hky1).symm
      have hnx : ky1 = ky2 → s1.take (j + 1) = s2.take (j + 1) := fun h => take_eq_succ' Htk.out hky1 hky2 h
      have hks : ky1 = ky2 ↔ kv1.k = kv2.k ∧ (kv1.i = kv2.i ∧ ky1.s.ch = ky2.s.ch ∧ ky1.s.pa = ky2.s.pa) := by rw [hok1.1, hok2.1, hok1.2.1, hok2.2.1]; exact ky_ext
      have Hne := Lib.hid hne
      have Hnx := Lib.hid hnx
      have Hks := Lib.hid hks
      clear hne hnx hks hok1 hok2 hky1 hky2 hkv1 hkv2 hT1 hT2 hK1 hK2
      by_cases hk : kv1.k = kv2.k
      · have gk : (kv1.k == kv2.k) = true := by rw [beq_iff_eq]; exact hk
        have gn : (kv1.k != kv2.k) = false := by rw [bne, gk]; rfl
        go_upto_region 6 with fail
        refine wp_region_flowF [29, 30, 31, 32, 33, 34, 35, 36, 37, 38, 39, 40, 41, 42, 43, 44, 45, 46, 47, 48, 49, 50, 51, 52, 53, 54, 55, 56, 57] [(Spec.is (.pointer (some ⟨w.heap.size, 1, none⟩)), false), (Spec.is (.slice (some ⟨cb1, co1, none⟩) m1 d1), false), (Spec.is (.int .i64 (j : Int)), false), (Spec.is (.pointer (some ⟨cb1, co1 + j * 4, none⟩)), false), (Spec.is (.pointer (some ⟨cb1, co1 + j * 4, none⟩)), false), (Spec.is (.int .i64 kv1.k), false), (Spec.is (.pointer (some ⟨w.heap.size + 1, 1, none⟩)), false), (Spec.is (.slice (some ⟨cb2, co2, none⟩) m1 d2), false), (Spec.is (.int .i64 (j : Int)), false), (Spec.is (.pointer (some ⟨cb2, co2 + j * 4, none⟩)), false), (Spec.is (.pointer (some ⟨cb2, co2 + j * 4, none⟩)), false), (Spec.is (.int .i64 kv2.k), false), (Spec.is (.bool false), false), (Spec.is (.bool false), false), (Spec.is (.pointer (some ⟨w.heap.size, 1, none⟩)), false), (Spec.is (.slice (some ⟨cb1, co1, none⟩) m1 d1), false), (Spec.is (.int .i64 (j : Int)), false), (Spec.is (.pointer (some ⟨cb1, co1 + j * 4, none⟩)), false), (Spec.is (.pointer (some ⟨cb1, co1 + j * 4 + 1, none⟩)), false), (Spec.is (.agg (sgV kv1.i kv1.C kv1.n kv1.c kv1.D kv1.m kv1.d).toArray), false), (Spec.is (.pointer (some ⟨w.heap.size + 1, 1, none⟩)), false), (Spec.is (.slice (some ⟨cb2, co2, none⟩) m1 d2), false), (Spec.is (.int .i64 (j : Int)), false), (Spec.is (.pointer (some ⟨cb2, co2 + j * 4, none⟩)), false), (Spec.is (.pointer (some ⟨cb2, co2 + j * 4 + 1, none⟩)), false), (Spec.is (.agg (sgV kv2.i kv2.C kv2.n kv2.c kv2.D kv2.m kv2.d).toArray), false), (Spec.is (.bool (decide (kv1.i = kv2.i ∧ ky1.s.ch = ky2.s.ch ∧ ky1.s.pa = ky2.s.pa))), false), (Spec.is (.bool (!decide (kv1.i = kv2.i ∧ ky1.s.ch = ky2.s.ch ∧ ky1.s.pa = ky2.s.pa))), false), (Spec.is (.bool (!decide (kv1.i = kv2.i ∧ ky1.s.ch = ky2.s.ch ∧ ky1.s.pa = ky2.s.pa))), false)] 58 (by kernel_rfl) rfl (by decide) rfl (by decide) (by kernel_rfl) ?_ ?_
        · refine ⟨?_, ?_, ?_, ?_, ?_, ?_, ?_, ?_, ?_, ?_, ?_, ?_, ?_, ?_, ?_, ?_, ?_, ?_, ?_, ?_, ?_, ?_, ?_, ?_, ?_, ?_, ?_, ?_, ?_, trivial⟩
          · intro a W hE hb hs
            have h2 : a.eval (.tmp 2) = .pointer (some ⟨w.heap.size, 0, none⟩) := hb 2 (by decide)
            refine flow0 rfl ?_
            intro K hK
            unfold Oper.wp execOp
            simp only [h2]
            simp [go_sem]
            exact hK _ _ ⟨Below.refl _ _, rfl, trivial⟩
          · intro a W hE hb hs
            have h29 : a.eval (.tmp 29) = .pointer (some ⟨w.heap.size, 1, none⟩) := hs 0 (by decide)
            refine flow0 rfl ?_
            have c0 : W.cell? ⟨w.heap.size, 1, none⟩ = some (.slice (some ⟨cb1, co1, none⟩) m1 d1) := (HXW W (ext_below hE)).1
            intro K hK
            unfold Oper.wp execOp
            simp only [h29]
            simp [go_sem, c0]
            exact hK _ _ ⟨Below.refl _ _, rfl, trivial⟩
          · intro a W hE hb hs
            have h5 : a.eval (.tmp 5) = .int .i64 (j : Int) := hb 5 (by decide)
            refine flow0 rfl ?_
            exact val_move _ rfl _ h5 ⟨rfl, trivial⟩
          · intro a W hE hb hs
            have h30 : a.eval (.tmp 30) = .slice (some ⟨cb1, co1, none⟩) m1 d1 := hs 1 (by decide)
            have h31 : a.eval (.tmp 31) = .int .i64 (j : Int) := hs 2 (by decide)
            refine flow0 rfl ?_
            intro K hK
            unfold Oper.wp execOp
            simp only [h30, h31]
            simp [go_sem, hj1, hj0]
            exact hK _ _ ⟨Below.refl _ _, rfl, trivial⟩
          · intro a W hE hb hs
            have h32 : a.eval (.tmp 32) = .pointer (some ⟨cb1, co1 + j * 4, none⟩) := hs 3 (by decide)
            refine flow0 rfl ?_
            intro K hK
            unfold Oper.wp execOp
            simp only [h32]
            simp [go_sem]
            exact hK _ _ ⟨Below.refl _ _, rfl, trivial⟩
          · intro a W hE hb hs
            have h33 : a.eval (.tmp 33) = .pointer (some ⟨cb1, co1 + j * 4, none⟩) := hs 4 (by decide)
            refine flow0 rfl ?_
            have c0 : W.cell? ⟨cb1, co1 + j * 4, none⟩ = some (.int .i64 kv1.k) := (HK1 W (ext_below hE)).1 0 _ rfl
            intro K hK
            unfold Oper.wp execOp
            simp only [h33]
            simp [go_sem, c0]
            exact hK _ _ ⟨Below.refl _ _, rfl, trivial⟩
          · intro a W hE hb hs
            have h3 : a.eval (.tmp 3) = .pointer (some ⟨w.heap.size + 1, 0, none⟩) := hb 3 (by decide)
            refine flow0 rfl ?_
            intro K hK
            unfold Oper.wp execOp
            simp only [h3]
            simp [go_sem]
            exact hK _ _ ⟨Below.refl _ _, rfl, trivial⟩
          · intro a W hE hb hs
            have h35 : a.eval (.tmp 35) = .pointer (some ⟨w.heap.size + 1, 1, none⟩) := hs 6 (by decide)
            refine flow0 rfl ?_
            have c0 : W.cell? ⟨w.heap.size + 1, 1, none⟩ = some (.slice (some ⟨cb2, co2, none⟩) m1 d2) := (HXW W (ext_below hE)).2
            intro K hK
            unfold Oper.wp execOp
            simp only [h35]
            simp [go_sem, c0]
            exact hK _ _ ⟨Below.refl _ _, rfl, trivial⟩
          · intro a W hE hb hs
            have h5 : a.eval (.tmp 5) = .int .i64 (j : Int) := hb 5 (by decide)
            refine flow0 rfl ?_
            exact val_move _ rfl _ h5 ⟨rfl, trivial⟩
          · intro a W hE hb hs
            have h36 : a.eval (.tmp 36) = .slice (some ⟨cb2, co2, none⟩) m1 d2 := hs 7 (by decide)
            have h37 : a.eval (.tmp 37) = .int .i64 (j : Int) := hs 8 (by decide)
            refine flow0 rfl ?_
            intro K hK
            unfold Oper.wp execOp
            simp only [h36, h37]
            simp [go_sem, hj2, hj0]
            exact hK _ _ ⟨Below.refl _ _, rfl, trivial⟩
          · intro a W hE hb hs
            have h38 : a.eval (.tmp 38) = .pointer (some ⟨cb2, co2 + j * 4, none⟩) := hs 9 (by decide)
            refine flow0 rfl ?_
            intro K hK
            unfold Oper.wp execOp
            simp only [h38]
            simp [go_sem]
            exact hK _ _ ⟨Below.refl _ _, rfl, trivial⟩
          · intro a W hE hb hs
            have h39 : a.eval (.tmp 39) = .pointer (some ⟨cb2, co2 + j * 4, none⟩) := hs 10 (by decide)
            refine flow0 rfl ?_
            have c0 : W.cell? ⟨cb2, co2 + j * 4, none⟩ = some (.int .i64 kv2.k) := (HK2 W (ext_below hE)).1 0 _ rfl
            intro K hK
            unfold Oper.wp execOp
            simp only [h39]
            simp [go_sem, c0]
            exact hK _ _ ⟨Below.refl _ _, rfl, trivial⟩
          · intro a W hE hb hs
            have h34 : a.eval (.tmp 34) = .int .i64 kv1.k := hs 5 (by decide)
            have h40 : a.eval (.tmp 40) = .int .i64 kv2.k := hs 11 (by decide)
            refine flow0 rfl ?_
            intro K hK
            unfold Oper.wp execOp
            simp only [h34, h40]
            simp [go_sem, gn]
            exact hK _ _ ⟨Below.refl _ _, rfl, trivial⟩
          · intro a W hE hb hs
            have h41 : a.eval (.tmp 41) = .bool false := hs 12 (by decide)
            refine flow0 rfl ?_
            exact val_move _ rfl _ h41 ⟨rfl, trivial⟩
          · intro a W hE hb hs
            have h2 : a.eval (.tmp 2) = .pointer (some ⟨w.heap.size, 0, none⟩) := hb 2 (by decide)
            have h42 : a.eval (.tmp 42) = .bool false := hs 13 (by decide)
            refine flowY rfl rfl h42 ?_
            intro K hK
            unfold Oper.wp execOp
            simp only [h2]
            simp [go_sem]
            exact hK _ _ ⟨Below.refl _ _, rfl, trivial⟩
          · intro a W hE hb hs
            have h43 : a.eval (.tmp 43) = .pointer (some ⟨w.heap.size, 1, none⟩) := hs 14 (by decide)
            have h42 : a.eval (.tmp 42) = .bool false := hs 13 (by decide)
            refine flowY rfl rfl h42 ?_
            have c0 : W.cell? ⟨w.heap.size, 1, none⟩ = some (.slice (some ⟨cb1, co1, none⟩) m1 d1) := (HXW W (ext_below hE)).1
            intro K hK
            unfold Oper.wp execOp
            simp only [h43]
            simp [go_sem, c0]
            exact hK _ _ ⟨Below.refl _ _, rfl, trivial⟩
          · intro a W hE hb hs
            have h5 : a.eval (.tmp 5) = .int .i64 (j : Int) := hb 5 (by decide)
            have h42 : a.eval (.tmp 42) = .bool false := hs 13 (by decide)
            refine flowY rfl rfl h42 ?_
            exact val_move _ rfl _ h5 ⟨rfl, trivial⟩
          · intro a W hE hb hs
            have h44 : a.eval (.tmp 44) = .slice (some ⟨cb1, co1, none⟩) m1 d1 := hs 15 (by decide)
            have h45 : a.eval (.tmp 45) = .int .i64 (j : Int) := hs 16 (by decide)
            have h42 : a.eval (.tmp 42) = .bool false := hs 13 (by decide)
            refine flowY rfl rfl h42 ?_
            intro K hK
            unfold Oper.wp execOp
            simp only [h44, h45]
            simp [go_sem, hj1, hj0]
            exact hK _ _ ⟨Below.refl _ _, rfl, trivial⟩
          · intro a W hE hb hs
            have h46 : a.eval (.tmp 46) = .pointer (some ⟨cb1, co1 + j * 4, none⟩) := hs 17 (by decide)
            have h42 : a.eval (.tmp 42) = .bool false := hs 13 (by decide)
            refine flowY rfl rfl h42 ?_
            intro K hK
            unfold Oper.wp execOp
            simp only [h46]
            simp [go_sem]
            exact hK _ _ ⟨Below.refl _ _, rfl, trivial⟩
          · intro a W hE hb hs
            have h47 : a.eval (.tmp 47) = .pointer (some ⟨cb1, co1 + j * 4 + 1, none⟩) := hs 18 (by decide)
            have h42 : a.eval (.tmp 42) = .bool false := hs 13 (by decide)
            refine flowY rfl rfl h42 ?_
            exact val_load_row 95 _ rfl cb1 (co1 + j * 4 + 1) h47 (sgV kv1.i kv1.C kv1.n kv1.c kv1.D kv1.m kv1.d) d37 (row_tail (HK1 W (ext_below hE)).1) hd37 hrow37 (by rw [sgV_len]; kernel_rfl) ⟨rfl, trivial⟩
          · intro a W hE hb hs
            have h3 : a.eval (.tmp 3) = .pointer (some ⟨w.heap.size + 1, 0, none⟩) := hb 3 (by decide)
            have h42 : a.eval (.tmp 42) = .bool false := hs 13 (by decide)
            refine flowY rfl rfl h42 ?_
            intro K hK
            unfold Oper.wp execOp
            simp only [h3]
            simp [go_sem]
            exact hK _ _ ⟨Below.refl _ _, rfl, trivial⟩
          · intro a W hE hb hs
            have h49 : a.eval (.tmp 49) = .pointer (some ⟨w.heap.size + 1, 1, none⟩) := hs 20 (by decide)
            have h42 : a.eval (.tmp 42) = .bool false := hs 13 (by decide)
            refine flowY rfl rfl h42 ?_
            have c0 : W.cell? ⟨w.heap.size + 1, 1, none⟩ = some (.slice (some ⟨cb2, co2, none⟩) m1 d2) := (HXW W (ext_below hE)).2
            intro K hK
            unfold Oper.wp execOp
            simp only [h49]
            simp [go_sem, c0]
            exact hK _ _ ⟨Below.refl _ _, rfl, trivial⟩
          · intro a W hE hb hs
            have h5 : a.eval (.tmp 5) = .int .i64 (j : Int) := hb 5 (by decide)
            have h42 : a.eval (.tmp 42) = .bool false := hs 13 (by decide)
            refine flowY rfl rfl h42 ?_
            exact val_move _ rfl _ h5 ⟨rfl, trivial⟩
          · intro a W hE hb hs
            have h50 : a.eval (.tmp 50) = .slice (some ⟨cb2, co2, none⟩) m1 d2 := hs 21 (by decide)
            have h51 : a.eval (.tmp 51) = .int .i64 (j : Int) := hs 22 (by decide)
            have h42 : a.eval (.tmp 42) = .bool false := hs 13 (by decide)
            refine flowY rfl rfl h42 ?_
            intro K hK
            unfold Oper.wp execOp
            simp only [h50, h51]
            simp [go_sem, hj2, hj0]
            exact hK _ _ ⟨Below.refl _ _, rfl, trivial⟩
          · intro a W hE hb hs
            have h52 : a.eval (.tmp 52) = .pointer (some ⟨cb2, co2 + j * 4, none⟩) := hs 23 (by decide)
            have h42 : a.eval (.tmp 42) = .bool false := hs 13 (by decide)
            refine flowY rfl rfl h42 ?_
            intro K hK
            unfold Oper.wp execOp
            simp only [h52]
            simp [go_sem]
            exact hK _ _ ⟨Below.refl _ _, rfl, trivial⟩
          · intro a W hE hb hs
            have h53 : a.eval (.tmp 53) = .pointer (some ⟨cb2, co2 + j * 4 + 1, none⟩) := hs 24 (by decide)
            have h42 : a.eval (.tmp 42) = .bool false := hs 13 (by decide)
            refine flowY rfl rfl h42 ?_
            exact val_load_row 95 _ rfl cb2 (co2 + j * 4 + 1) h53 (sgV kv2.i kv2.C kv2.n kv2.c kv2.D kv2.m kv2.d) d37 (row_tail (HK2 W (ext_below hE)).1) hd37 hrow37 (by rw [sgV_len]; kernel_rfl) ⟨rfl, trivial⟩
          · intro a W hE hb hs
            have h48 : a.eval (.tmp 48) = .agg (sgV kv1.i kv1.C kv1.n kv1.c kv1.D kv1.m kv1.d).toArray := hs 19 (by decide)
            have h54 : a.eval (.tmp 54) = .agg (sgV kv2.i kv2.C kv2.n kv2.c kv2.D kv2.m kv2.d).toArray := hs 25 (by decide)
            have h42 : a.eval (.tmp 42) = .bool false := hs 13 (by decide)
            refine flowY rfl rfl h42 ?_
            obtain ⟨q1, q2, q3, q4, q5, q6⟩ := (HK1 W (ext_below hE)).2
            obtain ⟨r1, r2, r3, r4, r5, r6⟩ := (HK2 W (ext_below hE)).2
            have z1 := q5.1.lenf sumC_len (by omega)
            have z2 := q6.1.lenf sumC_len (by omega)
            have z3 := r5.1.lenf sumC_len (by omega)
            have z4 := r6.1.lenf sumC_len (by omega)
            exact val_call 51 _ _ rfl (by kernel_rfl) [.agg (sgV kv1.i kv1.C kv1.n kv1.c kv1.D kv1.m kv1.d).toArray, .agg (sgV kv2.i kv2.C kv2.n kv2.c kv2.D kv2.m kv2.d).toArray] (by show [a.eval (.tmp 48), a.eval (.tmp 54)] = _; rw [h48, h54]) ((Same16_any kv1.i kv2.i kv1.C kv1.D kv2.C kv2.D kv1.n kv1.c kv1.m kv1.d kv2.n kv2.c kv2.m kv2.d ky1.s.ch ky1.s.pa ky2.s.ch ky2.s.pa W q5.1 q6.1 r5.1 r6.1 (by omega) (by omega) (by omega) (by omega)).mono (by rintro e W' ⟨rfl, hb⟩; exact ⟨_, rfl, hb, rfl, trivial⟩))
          · intro a W hE hb hs
            have h55 : a.eval (.tmp 55) = .bool (decide (kv1.i = kv2.i ∧ ky1.s.ch = ky2.s.ch ∧ ky1.s.pa = ky2.s.pa)) := hs 26 (by decide)
            have h42 : a.eval (.tmp 42) = .bool false := hs 13 (by decide)
            refine flowY rfl rfl h42 ?_
            exact val_not _ _ rfl _ h55 ⟨rfl, trivial⟩
          · intro a W hE hb hs
            have h42 : a.eval (.tmp 42) = .bool false := hs 13 (by decide)
            have h56 : a.eval (.tmp 56) = .bool (!decide (kv1.i = kv2.i ∧ ky1.s.ch = ky2.s.ch ∧ ky1.s.pa = ky2.s.pa)) := hs 27 (by decide)
            refine flow0 rfl ?_
            exact val_pick _ _ _ rfl false h42 _ (by rw [if_neg (by decide)]; exact h56) ⟨rfl, trivial⟩
        · intro f W hb hT hp hd
          have e57 : f 57 = .bool (!decide (kv1.i = kv2.i ∧ ky1.s.ch = ky2.s.ch ∧ ky1.s.pa = ky2.s.pa)) := hT 28 (by decide)
          have HbW := Lib.hid (HBr.out.trans (hb.mono HBr.out.size))
          simp only [putV, List.foldl_cons, List.foldl_nil, Act.put, List.setIfInBounds_toArray, List.set_cons_succ, List.set_cons_zero, Exit.then]
          rw [e57]
          clear hb hT hp hd e57
          by_cases hs : kv1.i = kv2.i ∧ ky1.s.ch = ky2.s.ch ∧ ky1.s.pa = ky2.s.pa
          · rw [decide_eq_true hs]
            have Hn := Lib.hid (Hnx.out (Hks.out.2 ⟨hk, hs⟩))
            clear hs hk gk gn
            go_wp2_with fail
            exact ⟨⟨j + 1, by push_cast; rfl, by omega, Hn.out, HbW.out⟩, by simp only [intOf]; omega⟩
          · rw [decide_eq_false hs]
            have Hv := Lib.hid (Hne.out (fun h => hs (Hks.out.1 h).2))
            clear hs hk gk gn
            go_wp2_with fail
            go_ret
            exact ⟨by rw [Hv.out]; rfl, HB.out.trans (HbW.out.mono HB.out.size)⟩
      · have gk : (kv1.k == kv2.k) = false := by rw [beq_eq_false_iff_ne]; exact hk
        have gn : (kv1.k != kv2.k) = true := by rw [bne, gk]; rfl
        have gk2 : ¬ kv1.k = kv2.k := hk
        go_upto_region 6 with fail
        refine wp_region_flowF [29, 30, 31, 32, 33, 34, 35, 36, 37, 38, 39, 40, 41, 42, 43, 44, 45, 46, 47, 48, 49, 50, 51, 52, 53, 54, 55, 56, 57] [(Spec.is (.pointer (some ⟨w.heap.size, 1, none⟩)), false), (Spec.is (.slice (some ⟨cb1, co1, none⟩) m1 d1), false), (Spec.is (.int .i64 (j : Int)), false), (Spec.is (.pointer (some ⟨cb1, co1 + j * 4, none⟩)), false), (Spec.is (.pointer (some ⟨cb1, co1 + j * 4, none⟩)), false), (Spec.is (.int .i64 kv1.k), false), (Spec.is (.pointer (some ⟨w.heap.size + 1, 1, none⟩)), false), (Spec.is (.slice (some ⟨cb2, co2, none⟩) m1 d2), false), (Spec.is (.int .i64 (j : Int)), false), (Spec.is (.pointer (some ⟨cb2, co2 + j * 4, none⟩)), false), (Spec.is (.pointer (some ⟨cb2, co2 + j * 4, none⟩)), false), (Spec.is (.int .i64 kv2.k), false), (Spec.is (.bool true), false), (Spec.is (.bool true), false), (Spec.any, false), (Spec.any, false), (Spec.any, false), (Spec.any, false), (Spec.any, false), (Spec.any, false), (Spec.any, false), (Spec.any, false), (Spec.any, false), (Spec.any, false), (Spec.any, false), (Spec.any, false), (Spec.any, false), (Spec.any, false), (Spec.is (.bool true), false)] 58 (by kernel_rfl) rfl (by decide) rfl (by decide) (by kernel_rfl) ?_ ?_
        · refine ⟨?_, ?_, ?_, ?_, ?_, ?_, ?_, ?_, ?_, ?_, ?_, ?_, ?_, ?_, ?_, ?_, ?_, ?_, ?_, ?_, ?_, ?_, ?_, ?_, ?_, ?_, ?_, ?_, ?_, trivial⟩
          · intro a W hE hb hs
            have h2 : a.eval (.tmp 2) = .pointer (some ⟨w.heap.size, 0, none⟩) := hb 2 (by decide)
            refine flow0 rfl ?_
            intro K hK
            unfold Oper.wp execOp
            simp only [h2]
            simp [go_sem]
            exact hK _ _ ⟨Below.refl _ _, rfl, trivial⟩
          · intro a W hE hb hs
            have h29 : a.eval (.tmp 29) = .pointer (some ⟨w.heap.size, 1, none⟩) := hs 0 (by decide)
            refine flow0 rfl ?_
            have c0 : W.cell? ⟨w.heap.size, 1, none⟩ = some (.slice (some ⟨cb1, co1, none⟩) m1 d1) := (HXW W (ext_below hE)).1
            intro K hK
            unfold Oper.wp execOp
            simp only [h29]
            simp [go_sem, c0]
            exact hK _ _ ⟨Below.refl _ _, rfl, trivial⟩
          · intro a W hE hb hs
            have h5 : a.eval (.tmp 5) = .int .i64 (j : Int) := hb 5 (by decide)
            refine flow0 rfl ?_
            exact val_move _ rfl _ h5 ⟨rfl, trivial⟩
          · intro a W hE hb hs
            have h30 : a.eval (.tmp 30) = .slice (some ⟨cb1, co1, none⟩) m1 d1 := hs 1 (by decide)
            have h31 : a.eval (.tmp 31) = .int .i64 (j : Int) := hs 2 (by decide)
            refine flow0 rfl ?_
            intro K hK
            unfold Oper.wp execOp
            simp only [h30, h31]
            simp [go_sem, hj1, hj0]
            exact hK _ _ ⟨Below.refl _ _, rfl, trivial⟩
          · intro a W hE hb hs
            have h32 : a.eval (.tmp 32) = .pointer (some ⟨cb1, co1 + j * 4, none⟩) := hs 3 (by decide)
            refine flow0 rfl ?_
            intro K hK
            unfold Oper.wp execOp
            simp only [h32]
            simp [go_sem]
            exact hK _ _ ⟨Below.refl _ _, rfl, trivial⟩
          · intro a W hE hb hs
            have h33 : a.eval (.tmp 33) = .pointer (some ⟨cb1, co1 + j * 4, none⟩) := hs 4 (by decide)
            refine flow0 rfl ?_
            have c0 : W.cell? ⟨cb1, co1 + j * 4, none⟩ = some (.int .i64 kv1.k) := (HK1 W (ext_below hE)).1 0 _ rfl
            intro K hK
            unfold Oper.wp execOp
            simp only [h33]
            simp [go_sem, c0]
            exact hK _ _ ⟨Below.refl _ _, rfl, trivial⟩
          · intro a W hE hb hs
            have h3 : a.eval (.tmp 3) = .pointer (some ⟨w.heap.size + 1, 0, none⟩) := hb 3 (by decide)
            refine flow0 rfl ?_
            intro K hK
            unfold Oper.wp execOp
            simp only [h3]
            simp [go_sem]
            exact hK _ _ ⟨Below.refl _ _, rfl, trivial⟩
          · intro a W hE hb hs
            have h35 : a.eval (.tmp 35) = .pointer (some ⟨w.heap.size + 1, 1, none⟩) := hs 6 (by decide)
            refine flow0 rfl ?_
            have c0 : W.cell? ⟨w.heap.size + 1, 1, none⟩ = some (.slice (some ⟨cb2, co2, none⟩) m1 d2) := (HXW W (ext_below hE)).2
            intro K hK
            unfold Oper.wp execOp
            simp only [h35]
            simp [go_sem, c0]
            exact hK _ _ ⟨Below.refl _ _, rfl, trivial⟩
          · intro a W hE hb hs
            have h5 : a.eval (.tmp 5) = .int .i64 (j : Int) := hb 5 (by decide)
            refine flow0 rfl ?_
            exact val_move _ rfl _ h5 ⟨rfl, trivial⟩
          · intro a W hE hb hs
            have h36 : a.eval (.tmp 36) = .slice (some ⟨cb2, co2, none⟩) m1 d2 := hs 7 (by decide)
            have h37 : a.eval (.tmp 37) = .int .i64 (j : Int) := hs 8 (by decide)
            refine flow0 rfl ?_
            intro K hK
            unfold Oper.wp execOp
            simp only [h36, h37]
            simp [go_sem, hj2, hj0]
            exact hK _ _ ⟨Below.refl _ _, rfl, trivial⟩
          · intro a W hE hb hs
            have h38 : a.eval (.tmp 38) = .pointer (some ⟨cb2, co2 + j * 4, none⟩) := hs 9 (by decide)
            refine flow0 rfl ?_
            intro K hK
            unfold Oper.wp execOp
            simp only [h38]
            simp [go_sem]
            exact hK _ _ ⟨Below.refl _ _, rfl, trivial⟩
          · intro a W hE hb hs
            have h39 : a.eval (.tmp 39) = .pointer (some ⟨cb2, co2 + j * 4, none⟩) := hs 10 (by decide)
            refine flow0 rfl ?_
            have c0 : W.cell? ⟨cb2, co2 + j * 4, none⟩ = some (.int .i64 kv2.k) := (HK2 W (ext_below hE)).1 0 _ rfl
            intro K hK
            unfold Oper.wp execOp
            simp only [h39]
            simp [go_sem, c0]
            exact hK _ _ ⟨Below.refl _ _, rfl, trivial⟩
          · intro a W hE hb hs
            have h34 : a.eval (.tmp 34) = .int .i64 kv1.k := hs 5 (by decide)
            have h40 : a.eval (.tmp 40) = .int .i64 kv2.k := hs 11 (by decide)
            refine flow0 rfl ?_
            intro K hK
            unfold Oper.wp execOp
            simp only [h34, h40]
            simp [go_sem, gn]
            exact hK _ _ ⟨Below.refl _ _, rfl, trivial⟩
          · intro a W hE hb hs
            have h41 : a.eval (.tmp 41) = .bool true := hs 12 (by decide)
            refine flow0 rfl ?_
            exact val_move _ rfl _ h41 ⟨rfl, trivial⟩
          · intro a W hE hb hs
            have h42 : a.eval (.tmp 42) = .bool true := hs 13 (by decide)
            exact flowN rfl rfl h42 (by decide) ⟨trivial, rfl⟩
          · intro a W hE hb hs
            have h42 : a.eval (.tmp 42) = .bool true := hs 13 (by decide)
            exact flowN rfl rfl h42 (by decide) ⟨trivial, rfl⟩
          · intro a W hE hb hs
            have h42 : a.eval (.tmp 42) = .bool true := hs 13 (by decide)
            exact flowN rfl rfl h42 (by decide) ⟨trivial, rfl⟩
          · intro a W hE hb hs
            have h42 : a.eval (.tmp 42) = .bool true := hs 13 (by decide)
            exact flowN rfl rfl h42 (by decide) ⟨trivial, rfl⟩
          · intro a W hE hb hs
            have h42 : a.eval (.tmp 42) = .bool true := hs 13 (by decide)
            exact flowN rfl rfl h42 (by decide) ⟨trivial, rfl⟩
          · intro a W hE hb hs
            have h42 : a.eval (.tmp 42) = .bool true := hs 13 (by decide)
            exact flowN rfl rfl h42 (by decide) ⟨trivial, rfl⟩
          · intro a W hE hb hs
            have h42 : a.eval (.tmp 42) = .bool true := hs 13 (by decide)
            exact flowN rfl rfl h42 (by decide) ⟨trivial, rfl⟩
          · intro a W hE hb hs
            have h42 : a.eval (.tmp 42) = .bool true := hs 13 (by decide)
            exact flowN rfl rfl h42 (by decide) ⟨trivial, rfl⟩
          · intro a W hE hb hs
            have h42 : a.eval (.tmp 42) = .bool true := hs 13 (by decide)
            exact flowN rfl rfl h42 (by decide) ⟨trivial, rfl⟩
          · intro a W hE hb hs
            have h42 : a.eval (.tmp 42) = .bool true := hs 13 (by decide)
            exact flowN rfl rfl h42 (by decide) ⟨trivial, rfl⟩
          · intro a W hE hb hs
            have h42 : a.eval (.tmp 42) = .bool true := hs 13 (by decide)
            exact flowN rfl rfl h42 (by decide) ⟨trivial, rfl⟩
          · intro a W hE hb hs
            have h42 : a.eval (.tmp 42) = .bool true := hs 13 (by decide)
            exact flowN rfl rfl h42 (by decide) ⟨trivial, rfl⟩
          · intro a W hE hb hs
            have h42 : a.eval (.tmp 42) = .bool true := hs 13 (by decide)
            exact flowN rfl rfl h42 (by decide) ⟨trivial, rfl⟩
          · intro a W hE hb hs
            have h42 : a.eval (.tmp 42) = .bool true := hs 13 (by decide)
            exact flowN rfl rfl h42 (by decide) ⟨trivial, rfl⟩
          · intro a W hE hb hs
            have h42 : a.eval (.tmp 42) = .bool true := hs 13 (by decide)
            refine flow0 rfl ?_
            exact val_pick _ _ _ rfl true h42 _ (by rw [if_pos rfl]; rfl) ⟨rfl, trivial⟩
        · intro f W hb hT hp hd
          have e57 : f 57 = .bool true := hT 28 (by decide)
          have HbW := Lib.hid (HBr.out.trans (hb.mono HBr.out.size))
          simp only [putV, List.foldl_cons, List.foldl_nil, Act.put, List.setIfInBounds_toArray, List.set_cons_succ, List.set_cons_zero, Exit.then]
          rw [e57]
          clear hb hT hp hd e57
          have Hv := Lib.hid (Hne.out (fun h => hk (Hks.out.1 h).1))
          clear hk gk gk2 gn
          go_wp2_with fail
          go_ret
          exact ⟨by rw [Hv.out]; rfl, HB.out.trans (HbW.out.mono HB.out.size)⟩
    · have dj : decide ((j : Int) < (m1 : Int)) = false := decide_eq_false (by omega)
      have hjn : ¬ (j : Int) < (m1 : Int) := by omega
      have Hv := Lib.hid (show R = true by
        rw [Hr1.out]
        have h := Htk.out
        rw [List.take_of_length_le (by omega), List.take_of_length_le (by omega)] at h
        exact decide_eq_true h)
      go_wp2_with fail
      go_ret
      exact ⟨by rw [Hv.out]; rfl, HB.out.trans (HBr.out.mono HB.out.size)⟩
end Go.Proofs.Yteofgkdpknaapaa
