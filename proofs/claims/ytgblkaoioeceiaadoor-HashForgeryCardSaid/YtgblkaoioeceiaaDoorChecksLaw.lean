/- The law HashChecks. -/
import Derived.Test.YtgblkaoioeceiaaDoorRCheck
import Derived.Test.YtgblkaoioeceiaaDoorSet32
import Derived.Test.YtgblkaoioeceiaaDoorChunks
import Derived.Test.YtgblkaoioeceiaaDoorMatches
import Derived.Test.YtgblkaoioeceiaaDoorProofs2
import Derived.Test.YtgblkaoioeceiaaDoorAppWide
import Derived.Deep.CutRange
namespace Go.Proofs.YtgblkaoioeceiaaDoor
open Go.RowKit Go.Sort

theorem und41b : (Tryd.prog.underlying 41).map (·.isRow) = some true := by kernel_rfl
theorem und41 : ∃ d, Tryd.prog.underlying 41 = some d ∧ d.isRow = true := by
  obtain ⟨d, h1, h2⟩ := Option.map_eq_some_iff.1 und41b
  exact ⟨d, h1, h2⟩
/-- The two checks answer alike, whatever the claim. -/
theorem checks_alike (rt : Sum32) (n i : Int) (A B : Option Addr) (l c m c2 : Nat) (bs : List UInt8) (q : List Sum32) (w : World) (hg : Globs w) (hr : Rd w 1 A l (bs.map byteV)) (hl : l ≤ 100) (hp : Rd w 32 B m (q.flatMap sumC)) (hm : m ≤ c2) (hn : n ≤ 1000) :
    ∃ res : Bool, ∀ W, Below w.heap.size w W → (Calls Tryd.prog 23 #[.agg (sumC rt).toArray, .int .i64 n, .int .i64 i, .slice A l c, .slice B m c2] W fun e w' => e = .returned (.bool res) ∧ Below W.heap.size W w') ∧
      (Calls Tryd.prog 24 #[.agg (sumC rt).toArray, .agg (claimV n i A l c B m c2)] W fun e w' => e = .returned (.bool res) ∧ Below W.heap.size W w') := by
  by_cases hb : i < 0 ∨ n ≤ i
  · exact ⟨false, fun W hW => ⟨Check_bad rt n i A B l c m c2 hb W, RCheck_bad rt n i A B l c m c2 hb W⟩⟩
  · obtain ⟨k, rfl⟩ : ∃ k : Nat, i = (k : Int) := ⟨i.toNat, by omega⟩
    obtain ⟨j, rfl⟩ : ∃ j : Nat, n = (j : Int) := ⟨n.toNat, by omega⟩
    exact ⟨_, fun W hW => ⟨Check_any rt j k A B l c m c2 bs q (by omega) (by omega) W (hg.below hW) (hr.below hW) (by omega) (hp.below hW) hm, RCheck_any rt j k A B l c m c2 bs q (by omega) (by omega) W (hr.below hW) (by omega) (hp.below hW)⟩⟩
theorem at_block {P : Program} {id : Nat} {c : Code} {Q : Exit → Act → World → Prop} {a : Act} {w : World} (h : (Code.block id c).wp P Q a w) : (Code.block id c).wp P Q a w := h

set_option maxRecDepth 100000 in
set_option maxHeartbeats 2000000 in
theorem Checks_any (A : Option Addr) (len cap : Nat) (cs : List (List UInt8)) (b0 b1 b2 b3 : UInt8) (w : World) (hg : Globs w) (hL : Lst w A len cs) (_hcap : len ≤ cap) :
    Calls Tryd.prog 5 #[.slice A len cap, .agg #[byteV b0, byteV b1, byteV b2, byteV b3]] w fun e w' => e = .returned (.bool true) ∧ Below w.heap.size w w' := by
  obtain ⟨i32, hi32, hz32, hs32, hy32⟩ := info_parts info32
  obtain ⟨i5, hi5, hz5, hq5, hy5⟩ := info_parts info5
  have Hg := Lib.hid hg
  have HL := Lib.hid hL
  clear hg hL
  go_enter Tryd.func5, Tryd.ntmps5
  go_upto_region 1 with fail
  obtain ⟨w0, hw0⟩ : ∃ w0, w0 = w.alloc (.cells #[byteV b0, byteV b1, byteV b2, byteV b3] 39) := ⟨_, rfl⟩
  have hW0 : Blk w0 w.heap.size 39 #[byteV b0, byteV b1, byteV b2, byteV b3] := by rw [hw0]; exact Blk.new _ _ _
  have hB0 : Below w.heap.size w w0 := by rw [hw0]; exact (Below.refl _ _).alloc (Nat.le_refl _) _
  rw [← hw0]
  clear hw0
  have H1 := Lib.hid (Sanity_any w0 (Hg.out.below hB0))
  have HW0 := Lib.hid hW0
  have HB0 := Lib.hid hB0
  have hs0 := hW0.lt
  clear hW0 hB0
  go_wp2_with fail
  refine H1.out.mono ?_
  rintro e w1 ⟨rfl, hb1⟩
  have hB1 := HB0.out.trans (hb1.mono HB0.out.size)
  have H2 := Lib.hid (Chunks_any A len cap 7 cs w1 (HL.out.below hB1) (by omega) (by omega))
  have Hg1 := Lib.hid (Hg.out.below hB1)
  have HW1 := Lib.hid (HW0.out.below hb1 hs0)
  have HB1 := Lib.hid hB1
  clear hb1 hB1 HW0 HB0 H1 HL
  go_wp2_with fail
  refine H2.out.mono ?_
  rintro e w2 ⟨A2, n, c, rfl, hnc, hL2, hb2⟩
  have hs1 : w.heap.size < w1.heap.size := HW1.out.lt
  have hnl := hL2.len
  have hcl := chunksL_len cs 7 (by omega)
  have hsm := chunksL_small cs 7
  have hW2 := HW1.out.below hb2 hs1
  have c0 : w2.cell? ⟨w.heap.size, 0, none⟩ = some (.int .u8 (b0.toNat : Int)) := by rw [hW2.cell]; rfl
  have hB2 := HB1.out.trans (hb2.mono HB1.out.size)
  have hg2 := Hg1.out.below hb2
  have Hg2 := Lib.hid hg2
  have HW2 := Lib.hid hW2
  have HB2 := Lib.hid hB2
  have HL2 := Lib.hid hL2
  clear HB1 Hg1 HW1 hb2 hB2 hL2 hg2 hW2 H2
  generalize chunksL cs 7 = ds at *
  have hn0 : 0 < n := by omega
  have hn7 : n ≤ 7 := by omega
  obtain ⟨i, hi⟩ : ∃ i, i = b0.toNat % n := ⟨_, rfl⟩
  have hin : i < n := by rw [hi]; exact Nat.mod_lt _ hn0
  have him : (b0.toNat : Int) % (n : Int) = (i : Int) := by rw [hi]; omega
  have hds : ∀ c ∈ ds, c.length ≤ 8796093021000 := fun c hc => by have := hsm c hc; omega
  have H3 := Lib.hid (RProof_any A2 n c i ds w2 HL2.out (by omega) hds hin)
  have Hi := Lib.hid hi
  have Hds := Lib.hid hds
  have Hsm := Lib.hid hsm
  clear hi hds hsm
  have hmod : (wrap64 (b0.toNat : Int)).tmod (n : Int) = (i : Int) := by
    have h1 := b0.toNat_lt
    rw [show wrap64 (b0.toNat : Int) = (b0.toNat : Int) from by unfold wrap64; omega, Int.tmod_eq_emod_of_nonneg (by omega), him]
  go_upto_region 4 with fail

  clear hmod him c0
  go_wp2_with fail
  refine H3.out.mono ?_
  rintro e w3 ⟨A3, n3, c3, rfl, hn3, hr3, hb3, hA3⟩
  obtain ⟨p, hp⟩ : ∃ p, p = proofL (ds.map leafS) i := ⟨_, rfl⟩
  rw [← hp] at hr3
  have hpl := hr3.lenf sumC_len (by omega)
  have hplen : p.length ≤ 3 := by rw [hp]; exact proofL_length 3 _ _ (by rw [List.length_map]; omega)
  have hL3 := HL2.out.below hb3
  obtain ⟨bL, oL, v, ci, rfl, hci, cc, hrd, hvc⟩ := hL3.at_ hin
  have cc1 : ∀ o, (w3.alloc o).cell? ⟨bL, oL + i, none⟩ = some (.slice v.a v.n v.c) := fun o => (((Below.refl _ w3).alloc (Nat.le_refl _) o).cell (World.block_lt_of_cell? w3 _ cc)).trans cc
  have hcil : ci.length ≤ 8 := Hsm.out ci (List.mem_of_getElem? hci)
  have hvn := hrd.len1
  have Hrd := Lib.hid hrd
  have Hr3 := Lib.hid hr3
  have HL3 := Lib.hid hL3
  have HW3 := Lib.hid (HW2.out.below hb3 (by have := HW2.out.lt; omega))
  have HB3 := Lib.hid (HB2.out.trans (hb3.mono HB2.out.size))
  have Hg3 := Lib.hid (Hg2.out.below hb3)
  have Hp := Lib.hid hp
  have hs3 := HB3.out.size
  clear hrd hr3 hL3 hb3 hp hA3 HL2 HW2 HB2 Hg2 H3 Hi Hsm
  clear cc
  go_wp2_with (first | (at_builtin; refine wpList_appz rfl (.tmp 30) (.tmp 34) 22 rfl 5 i5 (.int .u8 0) 1 1 Tryd.underlying22 hi5 hz5 hq5 hy5 rfl (by omega) w3.heap.size (by simp) _ 0 [] rfl (AppZ.empty _ (Nat.le_refl _) _) v.a v.n v.c (ci.map byteV) rfl (Hrd.out.alloc _) (oneB _) (by unfold maxLen; omega) (by omega) ?_; intro v1 w4 ha1 hg1; have hg1' : (w3.alloc (.cells #[] 5)).grownBy w4 (some w3.heap.size) := hg1; rw [Nat.zero_add, List.nil_append] at ha1; obtain ⟨A4, c4, rfl, hc4, hrd4⟩ := ha1.rd; have hb4 : Below w3.heap.size w3 w4 := ((Below.refl _ w3).alloc (Nat.le_refl _) (.cells #[] 5)).grown hg1' (by simp) (fun k e => by cases e; exact Nat.le_refl _); have Ha1 := Lib.hid ha1; have Hg1' := Lib.hid hg1'; have Hb4 := Lib.hid hb4; have Hrd4 := Lib.hid hrd4; clear ha1 hg1 hg1' hb4 hrd4) | (at_builtin; refine wpList_appz rfl (.tmp 36) (.tmp 37) 27 rfl 32 i32 (.agg zero32) 32 32 Tryd.underlying27 hi32 hz32 hs32 hy32 rfl (by omega) w4.heap.size (by simp) _ 0 [] rfl (AppZ.empty _ (Nat.le_refl _) _) A3 n3 c3 (p.flatMap sumC) rfl ((Hr3.out.below Hb4.out).alloc _) (oneP p) (by unfold maxLen; omega) (by omega) ?_; intro v2 w5 ha2 hg2; have hg2' : (w4.alloc (.cells #[] 32)).grownBy w5 (some w4.heap.size) := hg2; rw [Nat.zero_add, List.nil_append] at ha2; obtain ⟨A5, c5, rfl, hc5, hrd5⟩ := ha2.rd; have hb5 : Below w4.heap.size w4 w5 := ((Below.refl _ w4).alloc (Nat.le_refl _) (.cells #[] 32)).grown hg2' (by simp) (fun k e => by cases e; exact Nat.le_refl _); have Ha2 := Lib.hid ha2; have Hb5 := Lib.hid hb5; have Hrd5 := Lib.hid hrd5; clear ha2 hg2 hg2' hb5 hrd5))
  obtain ⟨w6, hw6⟩ : ∃ w6, w6 = w5.alloc (.cells #[.int .i64 (n : Int), .int .i64 (i : Int), .slice A4 v.n c4, .slice A5 n3 c5] 41) := ⟨_, rfl⟩
  have hC6 : Blk w6 w5.heap.size 41 (claimV n i A4 v.n c4 A5 n3 c5) := by rw [hw6]; exact Blk.new _ _ _
  have hb6 : Below w5.heap.size w5 w6 := by rw [hw6]; exact (Below.refl _ _).alloc (Nat.le_refl _) _
  rw [← hw6]
  clear hw6
  have hs4 := Hb4.out.size
  have hs5 := Hb5.out.size
  have hs6 := hC6.lt
  have hb35 : Below w3.heap.size w3 w5 := Hb4.out.trans (Hb5.out.mono hs4)
  have hb36 : Below w3.heap.size w3 w6 := hb35.trans (hb6.mono (by omega))
  have hL6 := HL3.out.below hb36
  have H6 := Lib.hid (RRoot_any (some ⟨bL, oL, none⟩) n c ds w6 hL6 (by omega) Hds.out)
  have Hb6 := Lib.hid hb6
  have Hb36 := Lib.hid hb36
  have HC6 := Lib.hid hC6
  clear hb35 hb36 hb6 hC6 hL6 cc1 Hg1' Hrd
  refine H6.out.mono ?_
  rintro e w7 ⟨rfl, hb7⟩
  have hs7 := hb7.size
  obtain ⟨rt, hrt⟩ : ∃ rt, rt = root ds := ⟨_, rfl⟩
  rw [← hrt]
  rw [show sumV rt.1 = .agg (sumC rt).toArray from rfl]
  have hsS : (sumC rt).toArray.size = 32 := by rw [List.size_toArray, sumC_len]
  have hones : (sumC rt).toArray.all (·.oneCell') = true := all_oneCell_toArray (oneB _)
  have hH7 : (w7.alloc (.cells zero32 32)).heap[w7.heap.size]? = some (.cells zero32 32 (0, 0)) := heap_alloc_new _ _
  have Hb7 := Lib.hid hb7
  clear hb7 hrt
  go_upto_region 7 with (first | (refine wpList_alloc0 rfl 32 rfl zero32 (.agg zero32) i32 hi32 hz32 rfl ?_; simp only [Act.put, List.setIfInBounds_toArray, List.set_cons_succ, List.set_cons_zero]) | (refine wpList_store_row rfl 32 (.tmp 11) (.tmp 41) rfl w7.heap.size (sumC rt).toArray rfl rfl 32 zero32 hH7 (size32 _ hsS) (zero32_size.trans hsS.symm) hones ?_; simp only [Act.put]))
  obtain ⟨w8, hw8⟩ : ∃ w8, w8 = (w7.alloc (.cells zero32 32)).setRow w7.heap.size (sumC rt).toArray := ⟨_, rfl⟩
  have hb8 : Below w7.heap.size w7 w8 := by rw [hw8]; exact Below.setRow ((Below.refl _ _).alloc (Nat.le_refl _) _) (Nat.le_refl _) _
  have hR8 : Blk w8 w7.heap.size 32 (sumC rt).toArray := by rw [hw8]; exact setRow_heap _ _ _ _ _ _ hH7
  rw [← hw8]
  clear hw8 hH7
  have hb68 : Below w6.heap.size w6 w8 := Hb7.out.trans (hb8.mono hs7)
  have hC8 := HC6.out.below hb68 hs6
  have hb58 : Below w5.heap.size w5 w8 := Hb6.out.trans (hb68.mono (by omega))
  have hP8 := Ha2.out.below hb58 (Nat.le_refl _)
  have hQ8 := Ha1.out.below (Hb5.out.trans (hb58.mono hs5)) (Nat.le_refl _)
  have lt4 := Ha1.out.lt
  have lt5 := Ha2.out.lt
  have hb38 := Hb36.out.trans (hb68.mono (by have := Hb36.out.size; omega))
  have hW8 := HW3.out.below hb38 (by have := HW3.out.lt; omega)
  have hB8 := HB3.out.trans (hb38.mono hs3)
  have hs8 := hR8.lt
  have hWlt := hW8.lt
  have d1 : w8.cell? ⟨w.heap.size, 1, none⟩ = some (.int .u8 (b1.toNat : Int)) := by rw [hW8.cell]; rfl
  have d2 : w8.cell? ⟨w.heap.size, 2, none⟩ = some (.int .u8 (b2.toNat : Int)) := by rw [hW8.cell]; rfl
  have d3 : w8.cell? ⟨w.heap.size, 3, none⟩ = some (.int .u8 (b3.toNat : Int)) := by rw [hW8.cell]; rfl
  obtain ⟨cb, hcb⟩ : ∃ cb, cb = w5.heap.size := ⟨_, rfl⟩
  obtain ⟨rb, hrb⟩ : ∃ rb, rb = w7.heap.size := ⟨_, rfl⟩
  rw [← hcb] at hC8 ⊢
  rw [← hrb] at hR8 ⊢
  have hcl5 : w4.heap.size ≤ cb := by omega
  have hcr : cb < rb := by omega
  have hwc : w.heap.size < cb := by have := HW3.out.lt; omega
  have h5c : w5.heap.size ≤ cb := by omega
  have Hcb := Lib.hid hcb
  have Hrb := Lib.hid hrb
  clear hcb hrb
  have HC8 := Lib.hid hC8
  have HP8 := Lib.hid hP8
  have HQ8 := Lib.hid hQ8
  have HR8 := Lib.hid hR8
  have HB8 := Lib.hid hB8
  have Hlt4 := Lib.hid lt4
  have Hlt5 := Lib.hid lt5
  clear hC8 hP8 hQ8 hR8 hb8 hb68 hb58 hb38 hW8 hB8 lt4 lt5 Hb4 Hb5 Hb6 Hb7 Hb36 Ha1 Ha2 HC6 H6 HW3 HB3 Hg3 HL3 Hrd4 Hrd5 Hr3 hs1 hs0
  iterate 13 (first | go_values | go_skip | go_guarded | go_step | go_upon | go_back | go_simp)
  clear d1 hsS hones
  have rq : Rd w8 1 A4 v.n (ci.map byteV) := by obtain ⟨A, c, e, _, h⟩ := HQ8.out.rd; cases e; exact h
  have rp : Rd w8 32 A5 n3 (p.flatMap sumC) := by obtain ⟨A, c, e, _, h⟩ := HP8.out.rd; cases e; exact h
  have nq : ∀ b off, 0 < v.n → A4 = some ⟨b, off, none⟩ → b < w4.heap.size := fun b off _ e => (Hlt4.out b (by rw [e]; rfl)).2
  have np : ∀ b off, 0 < n3 → A5 = some ⟨b, off, none⟩ → b < w5.heap.size := fun b off _ e => (Hlt5.out b (by rw [e]; rfl)).2
  have Hrq := Lib.hid rq
  have Hrp := Lib.hid rp
  have Hnq := Lib.hid nq
  have Hnp := Lib.hid np
  clear rq rp nq np
  have hx1 := b1.toNat_lt
  have hx2 := b2.toNat_lt
  have hx3 := b3.toNat_lt
  have hKcb : ∀ (j : Nat) (u : Value), KeptIn (fun k => k ≠ cb) w8 (w8.setCell ⟨cb, j, none⟩ u) := fun j u => (KeptIn.refl _ _).setAt (fun h => h rfl) u
  have HK := Lib.hid hKcb
  clear hKcb
  go_cut [] from 44 to 109 (fun wx => ∃ (n' i' : Int) (A' : Option Addr) (l' c' : Nat) (bs : List UInt8) (B' : Option Addr) (m' c2 : Nat) (q : List Sum32), Blk wx cb 41 (claimV n' i' A' l' c' B' m' c2) ∧ Rd wx 1 A' l' (bs.map byteV) ∧ l' ≤ 100 ∧ Rd wx 32 B' m' (q.flatMap sumC) ∧ m' ≤ c2 ∧ n' ≤ 1000 ∧ Blk wx rb 32 (sumC rt).toArray ∧ Below w.heap.size w wx)
  case first =>
    have c0 : w8.cell? ⟨cb, 0, none⟩ = some (.int .i64 (n : Int)) := by rw [HC8.out.cell]; rfl
    have c1 : w8.cell? ⟨cb, 1, none⟩ = some (.int .i64 (i : Int)) := by rw [HC8.out.cell]; rfl
    have c2 : w8.cell? ⟨cb, 2, none⟩ = some (.slice A4 v.n c4) := by rw [HC8.out.cell]; rfl
    have c3 : w8.cell? ⟨cb, 3, none⟩ = some (.slice A5 n3 c5) := by rw [HC8.out.cell]; rfl
    have fr := HC8.out.frozen
    by_cases h0 : b1.toNat % 6 = 0
    · have hk : (b1.toNat : Int) % 6 = 0 := by omega
      clear c2 c3 c0 d3
      go_wp2_with fail
      go_meet
      refine ⟨n, _, A4, v.n, c4, ci, A5, n3, c5, p, heap_setCell_same w8 cb 1 _ 41 _ HC8.out, Hrq.out.keptIn (HK.out _ _) (fun b off hn e => by have := Hnq.out b off hn e; omega), by omega, Hrp.out.keptIn (HK.out _ _) (fun b off hn e => by have := Hnp.out b off hn e; omega), hc5, by omega, HR8.out.keptIn (HK.out _ _) (by omega), HB8.out.setCell (by show w.heap.size ≤ cb; omega) _⟩
    by_cases h1 : b1.toNat % 6 = 1
    · have hk : (b1.toNat : Int) % 6 = 1 := by omega
      clear c2 c3 c1 d3
      go_wp2_with fail
      go_meet
      refine ⟨(b2.toNat : Int) % 9 - 1, i, A4, v.n, c4, ci, A5, n3, c5, p, heap_setCell_same w8 cb 0 _ 41 _ HC8.out, Hrq.out.keptIn (HK.out _ _) (fun b off hn e => by have := Hnq.out b off hn e; omega), by omega, Hrp.out.keptIn (HK.out _ _) (fun b off hn e => by have := Hnp.out b off hn e; omega), hc5, by omega, HR8.out.keptIn (HK.out _ _) (by omega), HB8.out.setCell (by show w.heap.size ≤ cb; omega) _⟩
    by_cases h2 : b1.toNat % 6 = 2
    · have hk : (b1.toNat : Int) % 6 = 2 := by omega
      clear c3 c1 c0 d3
      have Hrl := Lib.hid (lit_rdE w8 (.int .u8 (b2.toNat : Int)) 5)
      have happ : ∀ (v9 : Value) (w9 : World), AppZ w9 w3.heap.size 5 1 v9 (v.n + 1) (ci.map byteV ++ [byteV b2]) → (w8.alloc (.cells #[byteV b2] 5)).grownBy w9 (Value.slice A4 v.n c4).ownBlock →
          ∃ A9 c9, v9 = .slice A9 (v.n + 1) c9 ∧ Hid (Blk w9 cb 41 (claimV n i A4 v.n c4 A5 n3 c5)) ∧ Hid (Rd w9 1 A9 (v.n + 1) ((ci ++ [b2]).map byteV)) ∧ Hid (Rd w9 32 A5 n3 (p.flatMap sumC)) ∧ Hid (Blk w9 rb 32 (sumC rt).toArray) ∧ Hid (Below w.heap.size w w9) ∧ Hid (∀ b off, 0 < v.n + 1 → A9 = some ⟨b, off, none⟩ → b ≠ cb) := by
        intro v9 w9 ha hg
        have hne : ∀ k, (Value.slice A4 v.n c4).ownBlock = some k → k < w4.heap.size := fun k e => (Hlt4.out k e).2
        have hC9 := (HC8.out.alloc (.cells #[byteV b2] 5)).kept hg (fun e => by have := hne cb e.symm; omega)
        have hR9 := (HR8.out.alloc (.cells #[byteV b2] 5)).kept hg (fun e => by have := hne rb e.symm; omega)
        have hP9 := (HP8.out.alloc (.cells #[byteV b2] 5)).kept hg (by
          cases h5 : (Value.slice A5 n3 c5).ownBlock with
          | none => exact .inl rfl
          | some k => exact .inr (fun e => by have := hne k e.symm; have := (Hlt5.out k h5).1; omega))
        have hB9 := (HB8.out.alloc (by omega) (.cells #[byteV b2] 5)).grown hg (by simp; omega) (fun k e => by have := (Hlt4.out k e).1; omega)
        obtain ⟨A9, c9, rfl, _, hr9⟩ := ha.rd
        obtain ⟨A, c, e, _, hp9⟩ := hP9.rd
        cases e
        refine ⟨A9, c9, rfl, hC9, by rw [List.map_append]; exact hr9, hp9, hR9, hB9, fun b off h0 e => ?_⟩
        subst e
        obtain ⟨cur, hcur⟩ := ha.blk h0
        exact hcur.ne hC9 (by decide)
      have Happ := Lib.hid happ
      clear happ
      go_wp2_with (at_builtin; go_loud (refine wpList_appz rfl (.tmp 72) (.tmp 75) 22 rfl 5 i5 (.int .u8 0) 1 1 Tryd.underlying22 hi5 hz5 hq5 hy5 rfl (by omega) w3.heap.size (by simp; omega) _ v.n _ rfl (HQ8.out.alloc _) (some ⟨w8.heap.size, 0, none⟩) 1 1 [byteV b2] rfl Hrl.out (by simp [byteV, Value.oneCell']) (by unfold maxLen; omega) (by omega) ?_; intro v9 w9 ha9 hg9; obtain ⟨A9, c9, rfl, HC9, HQ9, HP9, HR9, HB9, Hn9⟩ := Happ.out v9 w9 ha9 hg9; have c2 : w9.cell? ⟨cb, 2, none⟩ = some (.slice A4 v.n c4) := (HC9.out.cell 2).trans rfl; have fr := HC9.out.frozen; clear ha9 hg9))
      go_meet
      have hK := (KeptIn.refl (fun k => k ≠ cb) w9).setAt (p := ⟨cb, 2, none⟩) (fun h => h rfl) (.slice A9 (v.n + 1) c9)
      exact ⟨n, i, A9, v.n + 1, c9, ci ++ [b2], A5, n3, c5, p, heap_setCell_same w9 cb 2 _ 41 _ HC9, HQ9.keptIn hK Hn9, by omega, HP9.keptIn hK (fun b off hn e => by have := Hnp.out b off hn e; omega), hc5, by omega, HR9.keptIn hK (by omega), HB9.setCell (by show w.heap.size ≤ cb; omega) _⟩
    by_cases h3 : b1.toNat % 6 = 3
    · have hk : (b1.toNat : Int) % 6 = 3 := by omega
      clear c2 c1 c0
      by_cases hn : n3 = 0
      · subst hn
        clear d2 d3
        go_wp2_with fail
        go_meet
        exact ⟨n, i, A4, v.n, c4, ci, A5, 0, c5, p, HC8.out, Hrq.out, by omega, Hrp.out, hc5, by omega, HR8.out, HB8.out⟩
      · obtain ⟨g, hg⟩ : ∃ g, A5 = some ⟨g, 0, none⟩ ∧ w8.ownsRow w4.heap.size 32 32 (.slice A5 n3 c5) n3 (p.flatMap sumC) := by
          rcases HP8.out with ⟨h, _⟩ | h
          · omega
          · rcases h.2 with ⟨hv, h0⟩ | ⟨g, _, _, hv, _⟩
            · omega
            · cases hv
              exact ⟨g, rfl, h⟩
        obtain ⟨rfl, hown⟩ := hg
        obtain ⟨cur, hcur⟩ := ownsRow_blk hown
        obtain ⟨q0, hq0⟩ : ∃ q0, q0 = b2.toNat % n3 := ⟨_, rfl⟩
        have hq : q0 < n3 := by rw [hq0]; exact Nat.mod_lt _ (by omega)
        have hqi : (b2.toNat : Int) % (n3 : Int) = (q0 : Int) := by rw [hq0]; omega
        obtain ⟨r0, hr0⟩ : ∃ r0, r0 = b3.toNat % 32 := ⟨_, rfl⟩
        have hr : r0 < 32 := by rw [hr0]; exact Nat.mod_lt _ (by omega)
        have hri : (b3.toNat : Int) % 32 = (r0 : Int) := by rw [hr0]; omega
        obtain ⟨bp, op, x, e, hx, hcp⟩ := Hrp.out.flat_ sumC_len (by omega) hq
        cases e
        obtain ⟨y, hy⟩ : ∃ y, x.1[r0]? = some y := ⟨_, List.getElem?_eq_getElem (by rw [x.2]; exact hr)⟩
        have hc := hcp r0 (byteV y) (by unfold sumC; rw [List.getElem?_map, hy]; rfl)
        rw [Nat.zero_add] at hc
        have hc' : w8.cell? ⟨g, q0 * 32 + r0, none⟩ = some (.int .u8 (y.toNat : Int)) := hc
        have hf := hcur.frozen (q0 * 32 + r0)
        have hxor : bits .xor .u8 (y.toNat : Int) 1 = ((y ^^^ 1).toNat : Int) := w8_xor y 1
        have hset := flat_set (f := sumC) sumC_len p q0 r0 x (setS x r0 (y ^^^ 1)) (byteV (y ^^^ 1)) hx hr (sumC_setS _ _ _)
        have hown' := ownsRow_set hown (g := g) rfl (q0 * 32 + r0) (byteV (y ^^^ 1))
        rw [hset] at hown'
        have hbp := Hnp.out g 0 (by omega) rfl
        have hbp4 := (Hlt5.out g rfl).1
        have hbc : g ≠ cb := by omega
        have hne4 := Hnq.out
        have hK := (KeptIn.refl (fun k => k ≠ g) w8).setAt (p := ⟨g, q0 * 32 + r0, none⟩) (fun h => h rfl) (byteV (y ^^^ 1))
        have hE := (Rd.of_own hown').drewN
        have Hown := Lib.hid (Rd.of_own hown')
        have HK2 := Lib.hid hK
        have Hne4 := Lib.hid hne4
        have hnn : decide (0 < n3) = true := decide_eq_true (by omega)
        have hnn2 : decide ((0 : Int) < (n3 : Int)) = true := decide_eq_true (by omega)
        have hmq : (wrap64 (b2.toNat : Int)).tmod (n3 : Int) = (q0 : Int) := by
          rw [show wrap64 (b2.toNat : Int) = (b2.toNat : Int) from by unfold wrap64; omega, Int.tmod_eq_emod_of_nonneg (by omega), hqi]
        clear hq0 hr0 hcp hc hx hy hset hown hown' hcur hK hE hne4
        go_upto_region 17 with fail
        refine wp_region_quiet_tail 18 (by kernel_rfl) (List.take_append_drop _ _) rfl (by kernel_rfl) (by kernel_rfl) (by kernel_rfl) (by kernel_rfl) (by kernel_rfl) (by decide) (by kernel_rfl) ?_
        simp only [List.take_succ_cons, List.take_zero, List.drop_succ_cons, List.drop_zero]
        repeat (go_big_quiet_step (fail))
        refine wpQuiet_nil ?_
        intro wq hw'
        obtain ⟨nq2, rfl⟩ := hw'
        go_wp2_with fail
        go_meet
        have hv : Value.int .u8 ((y.toNat ^^^ 1 : Nat) : Int) = byteV (y ^^^ 1) := by unfold byteV; rw [UInt8.toNat_xor]; rfl
        rw [hv, show (w8.drewN nq2).setCell ⟨g, q0 * 32 + r0, none⟩ (byteV (y ^^^ 1)) = (w8.setCell ⟨g, q0 * 32 + r0, none⟩ (byteV (y ^^^ 1))).drewN nq2 from rfl]
        exact ⟨n, i, A4, v.n, c4, ci, some ⟨g, 0, none⟩, n3, c5, _, Blk.drewN (HC8.out.keptIn HK2.out (fun e => hbc e.symm)) nq2, (Hrq.out.keptIn HK2.out (fun b off hn e => by have := Hne4.out b off hn e; omega)).drewN nq2, by omega, Hown.out.drewN nq2, hc5, by omega, Blk.drewN (HR8.out.keptIn HK2.out (by omega)) nq2, below_drewN (HB8.out.setCell (by show w.heap.size ≤ g; omega) _) nq2⟩
    by_cases h4 : b1.toNat % 6 = 4
    · have hk : (b1.toNat : Int) % 6 = 4 := by omega
      clear c2 c1 c0 d2 d3
      have hsz : (sumC rt).toArray.size = 32 := sumV_size rt.2
      have happ : ∀ (v9 : Value) (w9 : World), AppZ w9 w4.heap.size 32 32 v9 (n3 + 1) (p.flatMap sumC ++ sumC rt) → (w8.alloc (.cells (sumC rt).toArray 32)).grownBy w9 (Value.slice A5 n3 c5).ownBlock →
          ∃ A9 c9, v9 = .slice A9 (n3 + 1) c9 ∧ n3 + 1 ≤ c9 ∧ Hid (Blk w9 cb 41 (claimV n i A4 v.n c4 A5 n3 c5)) ∧ Hid (Rd w9 32 A9 (n3 + 1) ((p ++ [rt]).flatMap sumC)) ∧ Hid (Rd w9 1 A4 v.n (ci.map byteV)) ∧ Hid (Blk w9 rb 32 (sumC rt).toArray) ∧ Hid (Below w.heap.size w w9) ∧ Hid (∀ b off, 0 < n3 + 1 → A9 = some ⟨b, off, none⟩ → b ≠ cb) := by
        intro v9 w9 ha hg
        have hne : ∀ k, (Value.slice A5 n3 c5).ownBlock = some k → w4.heap.size ≤ k ∧ k < w5.heap.size := fun k e => Hlt5.out k e
        have hC9 := (HC8.out.alloc (.cells (sumC rt).toArray 32)).kept hg (fun e => by have := hne cb e.symm; omega)
        have hR9 := (HR8.out.alloc (.cells (sumC rt).toArray 32)).kept hg (fun e => by have := hne rb e.symm; omega)
        have hQ9 := (HQ8.out.alloc (.cells (sumC rt).toArray 32)).kept hg (by
          cases h5 : (Value.slice A4 v.n c4).ownBlock with
          | none => exact .inl rfl
          | some k => exact .inr (fun e => by have := (hne k e.symm).1; have := (Hlt4.out k h5).2; omega))
        have hB9 := (HB8.out.alloc (by omega) (.cells (sumC rt).toArray 32)).grown hg (by simp; omega) (fun k e => by have := (Hlt5.out k e).1; omega)
        obtain ⟨A9, c9, rfl, hc9, hr9⟩ := ha.rd
        obtain ⟨A, c, e, _, hp9⟩ := hQ9.rd
        cases e
        refine ⟨A9, c9, rfl, hc9, hC9, by rw [List.flatMap_append, List.flatMap_cons, List.flatMap_nil, List.append_nil]; exact hr9, hp9, hR9, hB9, fun b off h0 e => ?_⟩
        subst e
        obtain ⟨cur, hcur⟩ := ha.blk h0
        exact hcur.ne hC9 (by decide)
      have Happ := Lib.hid happ
      have Hrl := Lib.hid (show Rd (w8.alloc (.cells (sumC rt).toArray 32)) 32 (some ⟨w8.heap.size, 0, none⟩) 1 (sumC rt) from ⟨by rw [sumC_len], by omega, fun _ => ⟨_, _, rfl, fun j u hu => by have := cells_new w8 (sumC rt) 32 j u hu; rwa [Addr.add_mid] at this⟩⟩)
      clear happ
      go_wp2_with (first | (refine wpList_load_row rfl 32 (.tmp 11) rfl rb rfl 32 (sumC rt).toArray (0, 0) _ HR8.out und32 rfl (size32 _ hsz) ?_) | (refine wpList_build1 rfl 27 32 (.tmp 106) rfl (sumC rt).toArray i32 _ 32 Tryd.underlying27 hi32 hz32 hs32 (by omega) (by omega) rfl hsz ?_) | (at_builtin; go_loud (refine wpList_appz rfl (.tmp 105) (.tmp 107) 27 rfl 32 i32 (.agg zero32) 32 32 Tryd.underlying27 hi32 hz32 hs32 hy32 rfl (by omega) w4.heap.size (by simp; omega) _ n3 _ rfl (HP8.out.alloc _) (some ⟨w8.heap.size, 0, none⟩) 1 1 (sumC rt) rfl Hrl.out (oneB _) (by unfold maxLen; omega) (by omega) ?_; intro v9 w9 ha9 hg9; obtain ⟨A9, c9, rfl, hcc9, HC9, HP9, HQ9, HR9, HB9, Hn9⟩ := Happ.out v9 w9 ha9 hg9; have c3 : w9.cell? ⟨cb, 3, none⟩ = some (.slice A5 n3 c5) := (HC9.out.cell 3).trans rfl; have fr := HC9.out.frozen; clear ha9 hg9)))
      go_meet
      have hK := (KeptIn.refl (fun k => k ≠ cb) w9).setAt (p := ⟨cb, 3, none⟩) (fun h => h rfl) (.slice A9 (n3 + 1) c9)
      exact ⟨n, i, A4, v.n, c4, ci, A9, n3 + 1, c9, p ++ [rt], heap_setCell_same w9 cb 3 _ 41 _ HC9, HQ9.keptIn hK (fun b off hn e => by have := Hnq.out b off hn e; omega), by omega, HP9.keptIn hK Hn9, hcc9, by omega, HR9.keptIn hK (by omega), HB9.setCell (by show w.heap.size ≤ cb; omega) _⟩
    · have k0 : ((b1.toNat : Int) % 6 == 0) = false := by rw [beq_eq_false_iff_ne]; omega
      have k1 : ((b1.toNat : Int) % 6 == 1) = false := by rw [beq_eq_false_iff_ne]; omega
      have k2 : ((b1.toNat : Int) % 6 == 2) = false := by rw [beq_eq_false_iff_ne]; omega
      have k3 : ((b1.toNat : Int) % 6 == 3) = false := by rw [beq_eq_false_iff_ne]; omega
      have k4 : ((b1.toNat : Int) % 6 == 4) = false := by rw [beq_eq_false_iff_ne]; omega
      clear c2 c1 c0 d2 d3
      have hn2 : n3 / 2 ≤ c5 := by omega
      have hn3' : n3 / 2 ≤ n3 := by omega
      go_wp2_with fail
      go_meet
      exact ⟨n, i, A4, v.n, c4, ci, A5, n3 / 2, c5, p.take (n3 / 2), heap_setCell_same w8 cb 3 _ 41 _ HC8.out, Hrq.out.keptIn (HK.out _ _) (fun b off hn e => by have := Hnq.out b off hn e; omega), by omega, (Hrp.out.head32 hn3').keptIn (HK.out _ _) (fun b off hn e => by have := Hnp.out b off (by omega) e; omega), hn2, by omega, HR8.out.keptIn (HK.out _ _) (by omega), HB8.out.setCell (by show w.heap.size ≤ cb; omega) _⟩
  case rest =>
    obtain ⟨n', i', A', l', c', bs, B', m', c2, q, hC, hQ, hl, hP, hmc, hn', hR, hB⟩ := hcut
    clear HC8 HP8 HQ8 HR8 HB8 Hlt4 Hlt5 Hrq Hrp Hnq Hnp HK Hcb Hrb d2 d3
    obtain ⟨res, hres⟩ := checks_alike rt n' i' A' B' l' c' m' c2 bs q wc (Hg.out.below hB) hQ hl hP hmc hn'
    have B := fun d os => below_regrown wc d os
    have k1 : ∀ d os, Calls Tryd.prog 23 #[.agg (sumC rt).toArray, .int .i64 n', .int .i64 i', .slice A' l' c', .slice B' m' c2] (grow (redrawn wc d) os) fun e w'' => e = .returned (.bool res) ∧ ∃ p : Regrown, w'' = grow (redrawn wc p.d) p.os := fun d os => Calls.regrown_of (hres _ (B d os)).1
    have k2 : ∀ d os, Calls Tryd.prog 24 #[.agg (sumC rt).toArray, .agg (claimV n' i' A' l' c' B' m' c2)] (grow (redrawn wc d) os) fun e w'' => e = .returned (.bool res) ∧ ∃ p : Regrown, w'' = grow (redrawn wc p.d) p.os := fun d os => Calls.regrown_of (hres _ (B d os)).2
    have hxr := Blk.range (cs := sumC rt) hR
    have hx' : ∀ w', (∃ p : Regrown, w' = grow (redrawn wc p.d) p.os) → w'.rangeAt rb 0 (sumC rt) := fun w' hw' j v hv => ((ext_below hw').cell (World.block_lt_of_cell? wc _ (hxr j v hv))).trans (hxr j v hv)
    have hcr' : wc.rangeAt cb 0 [.int .i64 n', .int .i64 i', .slice A' l' c', .slice B' m' c2] := Blk.range (cs := [.int .i64 n', .int .i64 i', .slice A' l' c', .slice B' m' c2]) hC
    have hc' : ∀ w', (∃ p : Regrown, w' = grow (redrawn wc p.d) p.os) → w'.rangeAt cb 0 [.int .i64 n', .int .i64 i', .slice A' l' c', .slice B' m' c2] := fun w' hw' j v hv => ((ext_below hw').cell (World.block_lt_of_cell? wc _ (hcr' j v hv))).trans (hcr' j v hv)
    have e0 := cell_regrown (show wc.cell? ⟨cb, 0, none⟩ = some (.int .i64 n') by rw [hC.cell]; rfl)
    have e1 := cell_regrown (show wc.cell? ⟨cb, 1, none⟩ = some (.int .i64 i') by rw [hC.cell]; rfl)
    have e2 := cell_regrown (show wc.cell? ⟨cb, 2, none⟩ = some (.slice A' l' c') by rw [hC.cell]; rfl)
    have e3 := cell_regrown (show wc.cell? ⟨cb, 3, none⟩ = some (.slice B' m' c2) by rw [hC.cell]; rfl)
    have Hx' := Lib.hid hx'
    have Hc' := Lib.hid hc'
    have HB := Lib.hid hB
    obtain ⟨d41, hd41, hrow41⟩ := und41
    clear hx' hc' hxr hcr' hC hQ hP hR hB B hres
    unfold claimV at k2
    cases res
    all_goals
      go_upto_region 20 with fail
      refine wp_region_quiet_below (by kernel_rfl) (by kernel_rfl) ?_
      repeat (first | go_big_quiet_step (first | with_reducible exact k1 _ _ | with_reducible exact k2 _ _) | (refine wpQuiet_load_mid_g (by first | rfl | simp [Region.wanted, yielded]) 32 (.tmp 11) rfl rb 0 rfl (sumC rt) _ Hx'.out und32 rfl (by rw [sumC_len]; kernel_rfl) ?_; simp only [Act.put, List.setIfInBounds_toArray, List.set_cons_succ, List.set_cons_zero]) | (refine wpQuiet_load_mid_g (by first | rfl | simp [Region.wanted, yielded]) 41 (.tmp 10) rfl cb 0 rfl [.int .i64 n', .int .i64 i', .slice A' l' c', .slice B' m' c2] _ Hc'.out hd41 hrow41 (by kernel_rfl) ?_; simp only [Act.put, List.setIfInBounds_toArray, List.set_cons_succ, List.set_cons_zero]))
      refine wpQuiet_nil ?_
      intro wz hwz
      have Hbz := Lib.hid (HB.out.trans ((ext_below hwz).mono HB.out.size))
      clear hwz k1 k2
      go_wp2
      go_ret
      exact ⟨rfl, Hbz.out⟩
end Go.Proofs.YtgblkaoioeceiaaDoor
