/- Package hash: Sum. -/
import Derived.Test.YtgblkaoioeceiaaDoorRun
namespace Go.Proofs.YtgblkaoioeceiaaDoor
open Go.RowKit

def slLen : Value → Nat
  | .slice _ n _ => n
  | _ => 0
def stArr (s : St) : Array Value := #[u32V s.a, u32V s.b, u32V s.c, u32V s.d, u32V s.e, u32V s.f, u32V s.g, u32V s.h]
theorem Below.setRow {n : Nat} {a w : World} (h : Below n a w) {g : Nat} (hg : n ≤ g) (cs : Array Value) : Below n a (w.setRow g cs) :=
  ⟨h.os, h.tape, h.output, by have := h.size; simpa using this, fun k hk => (setRow_other w g k cs (by omega)).trans (h.block k hk)⟩
theorem size22' : Tryd.prog.cellsOf 5 = 1 := by kernel_rfl
theorem lenByte_val (n j : Nat) (hj : j < 8) (hn : n ≤ 8796093022208) : (n : Int) * 8 / 2 ^ (56 - 8 * j) % 256 = ((lenByte n j).toNat : Int) := by
  unfold lenByte
  rw [Nat.mod_eq_of_lt (a := n * 8) (by omega), UInt8.toNat_ofNat', show 8 * (7 - j) = 56 - 8 * j from by omega]
  simp
theorem und32 : Tryd.prog.underlying 32 = some (.array 32 5) := by kernel_rfl
theorem size32 (cs : Array Value) (h : cs.size = 32) : (Tryd.prog.info? 32).map (·.size) = some cs.size := by rw [h]; kernel_rfl
theorem stBytes_length' {s : St} : (stBytes s).length = 32 := rfl
theorem set_next (l : List UInt8) (i : Nat) (b : UInt8) (hl : l.length = 32) (hb : l[i]? = some b) : ((l.take i ++ List.replicate (32 - i) 0).map byteV).set i (.int .u8 (b.toNat : Int)) = (l.take (i + 1) ++ List.replicate (32 - (i + 1)) 0).map byteV := by
  have hi : i < l.length := (List.getElem?_eq_some_iff.1 hb).1
  rw [show (Value.int .u8 (b.toNat : Int)) = byteV b from rfl, ← List.map_set, List.set_append_right _ _ (by rw [List.length_take]; omega), List.length_take, Nat.min_eq_left (by omega), Nat.sub_self, show 32 - i = (32 - (i + 1)) + 1 from by omega, List.replicate_succ, List.set_cons_zero, List.take_add_one, hb]
  simp
theorem padLen_lt (n : Nat) : padLen n < 64 := Nat.mod_lt _ (by omega)
def sumV (h : List UInt8) : Value := .agg (h.map byteV).toArray

set_option maxRecDepth 100000 in
set_option maxHeartbeats 1500000 in
theorem Sum_any (A : Option Addr) (len cap : Nat) (bs : List UInt8) (w : World) (hg : Globs w) (hr : Rd w 1 A len (bs.map byteV)) (hlen : len ≤ 8796093022208) (hcap : len ≤ cap) :
    Calls Tryd.prog 14 #[.slice A len cap] w fun e w' => e = .returned (sumV (sha bs)) ∧ Below w.heap.size w w' := by
  have hl := hr.len1
  have hws := hg.size
  go_enter Tryd.func14, Tryd.ntmps14
  go_upto_region 1 with fail
  obtain ⟨w1, hw1⟩ : ∃ w1, w1 = w.alloc (.cells (List.replicate 32 (.int .u8 0)).toArray 32) := ⟨_, rfl⟩
  have hB1 : Below w.heap.size w w1 := by rw [hw1]; exact (Below.refl _ _).alloc (Nat.le_refl _) _
  have hs1 : w1.heap.size = w.heap.size + 1 := by rw [hw1]; simp
  have hO1 : Blk w1 w.heap.size 32 (List.replicate 32 (.int .u8 0)).toArray := by rw [hw1]; exact Blk.new _ _ _
  simp only [List.replicate_succ, List.replicate_zero] at hw1
  rw [← hw1]
  clear hw1
  have hg1 := hg.below hB1
  have a0 := hg1.i0
  have a1 := hg1.i1
  have a2 := hg1.i2
  have a3 := hg1.i3
  have a4 := hg1.i4
  have a5 := hg1.i5
  have a6 := hg1.i6
  have a7 := hg1.i7
  go_wp2_with fail
  clear a0 a1 a2 a3 a4 a5 a6 a7
  have hS1 : Blk (w1.alloc (.cells (stArr stInit) 56)) (w.heap.size + 1) 56 (stArr (stRun stInit (padded bs) 0)) := by
    have := Blk.new w1 56 (stArr stInit)
    rw [hs1] at this
    exact this
  have hB2 : Below (w.heap.size + 1) w1 (w1.alloc (.cells (stArr stInit) 56)) := (Below.refl _ _).alloc (by omega) _
  go_loopw [4] (fun v wr => ∃ (k n : Nat) (A' : Option Addr) (c' : Nat), n + 64 * k = len ∧ v = .slice A' n c' ∧ n ≤ c' ∧ Rd w 1 A' n ((bs.drop (64 * k)).map byteV) ∧ Blk wr (w.heap.size + 1) 56 (stArr (stRun stInit (padded bs) k)) ∧ Below (w.heap.size + 1) w1 wr) (fun v _ => slLen v)
  case atStart => exact ⟨0, len, A, cap, by omega, rfl, hcap, by simpa using hr, hS1, hB2⟩
  case round =>
    obtain ⟨k, n, A', c', hn, rfl, hnc, hR, hS, hB⟩ := hrel
    clear hS1 hB2 hcap hr
    by_cases hlt : 64 ≤ n
    · obtain ⟨b, off, rfl, _⟩ := hR.2.2 (by omega)
      have hR2 := rest_rd hR hlt hnc
      have hRr : Rd wr 1 (some ⟨b, off, none⟩) n ((bs.drop (64 * k)).map byteV) := (hR.below hB1).keep fun p _ hp => ((hB.mono (Nat.le_refl _)).cell (by have := World.block_lt_of_cell? w1 p hp; omega)).trans hp
      have hgr : Globs wr := hg1.keep fun p _ hp => (hB.cell (by have := World.block_lt_of_cell? w1 p hp; omega)).trans hp
      have hst := stRun_step bs k (by omega)
      have hAb : ∀ b' off', (some ⟨b, off, none⟩ : Option Addr) = some ⟨b', off', none⟩ → b' ≠ w.heap.size + 1 := fun b' off' e => by
        cases e
        obtain ⟨b', off', e', hc⟩ := hR.2.2 (by omega)
        cases e'
        have := World.block_lt_of_cell? w _ (hc 0 _ (List.getElem?_eq_getElem (by rw [hR.1]; omega)))
        simp at this
        omega
      have hblk := Block_any (w.heap.size + 1) (stRun stInit (padded bs) k) _ n c' _ wr hS hRr hlt hAb hgr.k (by have := hg.size; omega)
      have hlen2 : n - 64 + 64 * (k + 1) = len := by omega
      have hdr : (bs.drop (64 * k)).drop 64 = bs.drop (64 * (k + 1)) := by rw [List.drop_drop, show 64 * k + 64 = 64 * (k + 1) from by omega]
      have hsz : w.heap.size + 1 < wr.heap.size := hS.lt
      rw [hdr] at hR2
      have Hst := Lib.hid hst
      have Hblk := Lib.hid hblk
      have HB := Lib.hid hB
      have HR2 := Lib.hid hR2
      clear hst hblk hB hR2 hdr hAb hRr hR hS hgr
      go_wp2_with fail
      refine Hblk.out.mono ?_
      rintro e w' ⟨rfl, hk2, hb2⟩
      have Hb2 := Lib.hid hb2
      have Hk2 := Lib.hid hk2
      clear hb2 hk2
      go_wp2_with fail
      refine ⟨⟨k + 1, n - 64, _, c' - 64, hlen2, rfl, by omega, HR2.out, by rw [Hst.out]; exact Hb2.out, HB.out.trans (Hk2.out.below (fun k hk => ⟨by omega, by omega⟩))⟩, by simp only [slLen]; omega⟩
    · have hR1 : Rd wr 1 A' n ((bs.drop (64 * k)).map byteV) := (hR.below hB1).keep fun p _ hp => ((hB.mono (Nat.le_refl _)).cell (by have := World.block_lt_of_cell? w1 p hp; omega)).trans hp
      have hgr : Globs wr := hg1.keep fun p _ hp => (hB.cell (by have := World.block_lt_of_cell? w1 p hp; omega)).trans hp
      have hOr : Blk wr w.heap.size 32 (List.replicate 32 (.int .u8 0)).toArray := hO1.below hB (by omega)
      have hsz : w.heap.size + 1 < wr.heap.size := hS.lt
      have hBw : Below w.heap.size w wr := hB1.trans (hB.mono (by omega))
      have hclone := Clone_any A' n c' _ wr hR1 (by omega)
      have hdl : (bs.drop (64 * k)).length = n := by rw [List.length_drop]; omega
      have hpl := padded_drop bs (64 * k) (by omega)
      have hpd : padLen bs.length = (119 - n % 64) % 64 := by unfold padLen; congr 2; omega
      obtain ⟨i0, hi0, hz0, hz1, hz2⟩ := info_parts info5
      generalize hrs : bs.drop (64 * k) = rs at *
      generalize hpz : padLen bs.length = pz at *
      have Hpd := Lib.hid hpd
      have Hcl := Lib.hid hclone
      have Hpl := Lib.hid hpl
      have Hgr := Lib.hid hgr
      have HS := Lib.hid hS
      have HO := Lib.hid hOr
      have HBw := Lib.hid hBw
      clear hpd hclone hpl hgr hS hOr hBw hR hR1 hB hO1 hg hg1 hB1 hs1 hrs hpz
      obtain ⟨wc, hwc⟩ : ∃ wc, wc = wr := ⟨_, rfl⟩
      subst hwc
      go_wp2_with fail
      refine Hcl.out.mono ?_
      rintro e wd ⟨v, rfl, happ, hbd⟩
      have hszd := hbd.size
      go_wp2_with (at_builtin; refine wpList_app rfl (.tmp 19) (.tmp 20) 22 rfl 5 i0 (.int .u8 0) 1 Tryd.underlying22 hi0 hz0 hz1 hz2 rfl wc.heap.size (by simp; omega) _ n _ rfl (happ.below ((Below.refl wd.heap.size wd).alloc (Nat.le_refl _) _) (Nat.le_refl _)) (some ⟨wd.heap.size, 0, none⟩) 1 1 [.int .u8 128] rfl ⟨rfl, by omega, fun _ => ⟨_, _, rfl, fun j u hu => by have := cells_new wd [.int .u8 128] 5 j u hu; rwa [Addr.add_mid] at this⟩⟩ (by simp [Value.oneCell']) (by unfold maxLen; omega) (by omega) ?_; intro v1 w2 happ1 hb1)
      have hA2 : App w2 wc.heap.size 5 v1 (n + 1 + 0) ((rs ++ 0x80 :: List.replicate 0 0).map byteV) := by simpa [byteV] using happ1
      have hb2 : Below wc.heap.size wc w2 := (hbd.alloc hszd _).trans hb1
      clear happ1 hb1 happ hbd
      go_loopw [5] (fun v wx => ∃ z : Nat, z ≤ pz ∧ App wx wc.heap.size 5 v (n + 1 + z) ((rs ++ 0x80 :: List.replicate z 0).map byteV) ∧ Below wc.heap.size wc wx) (fun v _ => 200 - slLen v)
      case atStart => exact ⟨0, by omega, hA2, hb2⟩
      case round =>
        obtain ⟨z, hz, happ, hB⟩ := hrel
        obtain ⟨Az, cz, rfl, hcz, hRz⟩ := happ.rd
        clear hA2 hb2
        have hpz64 : pz < 64 := by have := Hpd.out; omega
        by_cases h56 : (n + 1 + z) % 64 = 56
        · obtain rfl : z = pz := by have := Hpd.out; omega
          have hA3 : App wr wc.heap.size 5 (.slice Az (n + 1 + z) cz) (n + 1 + z + 0) ((rs ++ 0x80 :: List.replicate z 0 ++ (List.range 0).map (lenByte len)).map byteV) := by simpa using happ
          have hB3 := hB
          clear hRz happ hB
          go_wp2_with fail
          have H56 := Lib.hid h56
          clear h56
          generalize Value.bool (((n : Int) + 1 + (z : Int)) % 64 != 56) = vb
          go_loopw [5, 6] (fun v t wx => ∃ j : Nat, j ≤ 8 ∧ t = .int .i64 (56 - 8 * (j : Int)) ∧ App wx wc.heap.size 5 v (n + 1 + z + j) ((rs ++ 0x80 :: List.replicate z 0 ++ (List.range j).map (lenByte len)).map byteV) ∧ Below wc.heap.size wc wx) (fun v _ _ => 200 - slLen v)
          case atStart => exact ⟨0, by omega, rfl, hA3, hB3⟩
          case round =>
            obtain ⟨j, hj, rfl, happ, hB⟩ := hrel
            obtain ⟨Az', cz', rfl, hcz', hRz⟩ := happ.rd
            clear hA3 hB3
            by_cases hj8 : j < 8
            · have HB := Lib.hid hB
              have Happ := Lib.hid happ
              have hsz3 := hB.size
              clear hB happ
              have hlb := lenByte_val len j hj8 hlen
              have Hlb := Lib.hid hlb
              clear hlb
              go_wp2_with (at_builtin; refine wpList_app rfl (.tmp 33) (.tmp 41) 22 rfl 5 i0 (.int .u8 0) 1 Tryd.underlying22 hi0 hz0 hz1 hz2 rfl wc.heap.size (by simp; omega) _ _ _ rfl (Happ.out.below ((Below.refl wr.heap.size wr).alloc (Nat.le_refl _) _) (Nat.le_refl _)) (some ⟨wr.heap.size, 0, none⟩) 1 1 [.int .u8 ((len : Int) * 8 / 2 ^ (56 - 8 * j) % 256)] rfl ⟨rfl, by omega, fun _ => ⟨_, _, rfl, fun j' u hu => by have := cells_new wr [.int .u8 ((len : Int) * 8 / 2 ^ (56 - 8 * j) % 256)] 5 j' u hu; rwa [Addr.add_mid] at this⟩⟩ (by simp [Value.oneCell']) (by unfold maxLen; omega) (by omega) ?_; intro v1 w2 happ1 hb1)
              refine ⟨⟨j + 1, by omega, by go_num, ?_, (HB.out.alloc hsz3 _).trans hb1⟩, ?_⟩
              · rw [Hlb.out] at happ1
                rw [show rs ++ 0x80 :: List.replicate z 0 ++ (List.range (j + 1)).map (lenByte len) = (rs ++ 0x80 :: List.replicate z 0 ++ (List.range j).map (lenByte len)) ++ [lenByte len j] from by rw [List.range_succ]; simp, List.map_append]
                exact happ1
              · obtain ⟨A3, c3, rfl, _, _⟩ := happ1.rd
                simp only [slLen]
                omega
            · obtain rfl : j = 8 := by omega
              have hlast : rs ++ 0x80 :: List.replicate z 0 ++ (List.range 8).map (lenByte len) = (padded bs).drop (64 * k) := by rw [Hpl.out, hl]
              rw [hlast] at happ hRz
              have hL : n + 1 + z + 8 = 64 ∨ n + 1 + z + 8 = 128 := by have := Hpd.out; have := H56.out; omega
              have hpl2 : (padded bs).length = n + 1 + z + 8 + 64 * k := by
                have := hRz.len1
                rw [List.length_drop] at this
                omega
              obtain ⟨g, hg0, hgA⟩ : ∃ g, wc.heap.size ≤ g ∧ Az' = some ⟨g, 0, none⟩ := by
                rcases happ with ⟨h0, _⟩ | ⟨_, ⟨_, h0⟩ | ⟨g, cap, cur, hv, hb, _⟩⟩
                · omega
                · omega
                · exact ⟨g, hb, by injection hv⟩
              subst hgA
              generalize hLL : n + 1 + z + 8 = L at *
              have hS2 : Blk wr (w.heap.size + 1) 56 (stArr (stRun stInit (padded bs) k)) := HS.out.below hB hsz
              have hO2 : Blk wr w.heap.size 32 (List.replicate 32 (.int .u8 0)).toArray := HO.out.below hB (by omega)
              have hB2 : Below w.heap.size w wr := HBw.out.trans (hB.mono (by omega))
              have hg2 : Globs wr := Hgr.out.below hB
              have hgs := hg2.size
              rw [show (56 - 8 * ((8 : Nat) : Int)) = -8 from rfl]
              clear happ hlast Hcl HS HO HBw Hgr Hpl hB
              obtain ⟨we, hwe⟩ : ∃ we, we = wr := ⟨_, rfl⟩
              subst hwe
              go_wp2_with fail
              go_loopw [5] (fun v wx => ∃ (i m c : Nat) (Aq : Option Addr), m + 64 * i = L ∧ v = .slice Aq m c ∧ m ≤ c ∧ (∃ off, Aq = some ⟨g, off, none⟩) ∧ Rd we 1 Aq m (((padded bs).drop (64 * (k + i))).map byteV) ∧ Blk wx (w.heap.size + 1) 56 (stArr (stRun stInit (padded bs) (k + i))) ∧ KeptIn (fun k => k < we.heap.size ∧ k ≠ w.heap.size + 1) we wx) (fun v _ => slLen v)
              case atStart => exact ⟨0, L, cz', _, by omega, rfl, hcz', ⟨_, rfl⟩, hRz, hS2, KeptIn.refl _ _⟩
              case round =>
                obtain ⟨i, m, c, _, hm, rfl, hmc, ⟨off, rfl⟩, hR, hS, hK⟩ := hrel
                clear hS2 hRz
                by_cases hm0 : 0 < m
                · have hR2 := rest_rd hR (i := 64) (by omega) hmc
                  have hRr : Rd wr 1 (some ⟨g, off, none⟩) m (((padded bs).drop (64 * (k + i))).map byteV) := hR.keptIn hK (fun b o _ e => by
                    cases e
                    obtain ⟨b', off', e', hc⟩ := hR.2.2 hm0
                    cases e'
                    exact ⟨World.block_lt_of_cell? we _ (hc 0 _ (List.getElem?_eq_getElem (by rw [hR.1]; omega))), by omega⟩)
                  have hgr : ∀ j, j < 64 → wr.cell? ⟨1, j, none⟩ = some (.int .u32 ((roundsL.getD j 0).toNat : Int)) := fun j hj => (hK.cell (p := ⟨1, j, none⟩) ⟨by omega, by show 1 ≠ _; omega⟩).trans (hg2.k j hj)
                  have hm64 : 64 ≤ m := by omega
                  have hblk := Block_any (w.heap.size + 1) (stRun stInit (padded bs) (k + i)) _ m c _ wr hS hRr (by omega) (fun b o e => by cases e; omega) hgr (by omega)
                  have hst : stRun stInit (padded bs) (k + (i + 1)) = stBlock (stRun stInit (padded bs) (k + i)) ((padded bs).drop (64 * (k + i))) := rfl
                  have hdr : ((padded bs).drop (64 * (k + i))).drop 64 = (padded bs).drop (64 * (k + (i + 1))) := by rw [List.drop_drop, show 64 * (k + i) + 64 = 64 * (k + (i + 1)) from by omega]
                  have hsw := hK.size
                  rw [hdr] at hR2
                  have Hst := Lib.hid hst
                  have Hblk := Lib.hid hblk
                  have HK := Lib.hid hK
                  have HR2 := Lib.hid hR2
                  have Hpl2 := Lib.hid hpl2
                  clear hst hblk hK hR2 hdr hRr hR hS hgr hpl2
                  go_wp2_with fail
                  refine Hblk.out.mono ?_
                  rintro e w' ⟨rfl, hk2, hb2⟩
                  have Hb2 := Lib.hid hb2
                  have Hk2 := Lib.hid hk2
                  clear hb2 hk2
                  have hfin2 := HR2.out
                  by_cases hc64 : c = 64
                  · rw [if_pos hc64] at hfin2
                    have HR3 := Lib.hid hfin2
                    clear hfin2 HR2
                    go_wp2_with fail
                    exact ⟨⟨i + 1, m - 64, 0, some ⟨g, off, none⟩, by omega, by simp, by omega, ⟨_, rfl⟩, by simpa using HR3.out, by rw [Hst.out]; exact Hb2.out, HK.out.trans (Hk2.out.mono (fun k hk => ⟨by omega, hk.2⟩))⟩, by simp only [slLen]; omega⟩
                  · rw [if_neg hc64] at hfin2
                    have HR3 := Lib.hid hfin2
                    clear hfin2 HR2
                    go_wp2_with fail
                    exact ⟨⟨i + 1, m - 64, c - 64, some ⟨g, off + 64, none⟩, by omega, by simp, by omega, ⟨_, rfl⟩, by simpa using HR3.out, by rw [Hst.out]; exact Hb2.out, HK.out.trans (Hk2.out.mono (fun k hk => ⟨by omega, hk.2⟩))⟩, by simp only [slLen]; omega⟩
                · obtain rfl : m = 0 := by omega
                  have hfin : stRun stInit (padded bs) (k + i) = stRun stInit (padded bs) ((padded bs).length / 64) := by rw [hpl2]; congr 1; omega
                  rw [hfin] at hS
                  have hsha := sha_run bs
                  generalize stRun stInit (padded bs) ((padded bs).length / 64) = st at *
                  have hO3 : Blk wr w.heap.size 32 (List.replicate 32 (.int .u8 0)).toArray := hO2.keptIn hK ⟨by have := hB2.size; have := hO2.lt; omega, by omega⟩
                  have hB3 : Below w.heap.size w wr := hB2.trans (hK.below (fun k hk => ⟨by have := hO2.lt; omega, by omega⟩))
                  have hbg := stBytes_get st
                  have Hsha := Lib.hid hsha
                  have Hbg := Lib.hid hbg
                  clear hsha hbg hR hfin hpl2 hO2 hB2 hg2 hK
                  obtain ⟨wf, hwf⟩ : ∃ wf, wf = wr := ⟨_, rfl⟩
                  subst hwf
                  have hcell : ∀ q, q < 8 → wf.cell? ⟨w.heap.size + 1, q, none⟩ = some (.int .u32 (((stList st).getD q 0).toNat : Int)) := fun q hq => by
                    rw [hS.cell q]
                    have : q = 0 ∨ q = 1 ∨ q = 2 ∨ q = 3 ∨ q = 4 ∨ q = 5 ∨ q = 6 ∨ q = 7 := by omega
                    rcases this with rfl | rfl | rfl | rfl | rfl | rfl | rfl | rfl <;> rfl
                  have Hcell := Lib.hid hcell
                  have HB3 := Lib.hid hB3
                  have HO3 := Lib.hid hO3
                  have hBs := hS.lt
                  have hO3lt := hO3.lt
                  clear hcell hB3 hO3 hS
                  go_wp2_with fail
                  have hN : Blk (wf.alloc (.cells (((stBytes st).take 0 ++ List.replicate (32 - 0) 0).map byteV).toArray 32)) wf.heap.size 32 (((stBytes st).take 0 ++ List.replicate (32 - 0) 0).map byteV).toArray := Blk.new _ _ _
                  go_loopw [8, 50] (fun _ t wx => ∃ i : Nat, i ≤ 32 ∧ t = .int .i64 i ∧ Blk wx wf.heap.size 32 (((stBytes st).take i ++ List.replicate (32 - i) 0).map byteV).toArray ∧ Below wf.heap.size wf wx) (fun _ t _ => 32 - (intOf t).toNat)
                  case atStart => exact ⟨0, by omega, rfl, hN, (Below.refl _ _).alloc (Nat.le_refl _) _⟩
                  case round =>
                    obtain ⟨i, hi, rfl, hN1, hB⟩ := hrel
                    clear hN
                    by_cases hi32 : i < 32
                    · have hc := (hB.cell (p := ⟨w.heap.size + 1, i / 4, none⟩) hBs).trans (Hcell.out (i / 4) (by omega))
                      have hbi := Hbg.out i hi32
                      generalize (stList st).getD (i / 4) 0 = x at *
                      have o1 : wr.cell? ⟨wf.heap.size, i, none⟩ = some (.int .u8 0) := by
                        rw [hN1.cell i, List.getElem?_toArray, List.getElem?_map, List.getElem?_append_right (by simp [stBytes_length]; omega), List.getElem?_replicate, if_pos (by simp [stBytes_length]; omega)]
                        rfl
                      have o2 := hN1.frozen i
                      have HN := Lib.hid hN1
                      have HB := Lib.hid hB
                      have Hbi := Lib.hid hbi
                      clear hN1 hB hbi
                      go_wp2_with fail
                      rw [show ((x.toNat : Int) / 2 ^ (24 - 8 * (i % 4)) % 256) = ((UInt8.ofNat (x.toNat / 2 ^ (24 - 8 * (i % 4)))).toNat : Int) from by rw [UInt8.toNat_ofNat']; simp]
                      refine ⟨⟨i + 1, by omega, by go_num, ?_, HB.out.setCell (Nat.le_refl _) _⟩, by simp [intOf]; omega⟩
                      refine (heap_setCell_same wr _ i _ 32 _ HN.out).trans ?_
                      congr 2
                      rw [List.setIfInBounds_toArray]
                      congr 1
                      exact set_next _ i _ stBytes_length' Hbi.out
                    · obtain rfl : i = 32 := by omega
                      have hO4 := HO3.out.below hB hO3lt
                      have hB4 := HB3.out.trans (hB.mono (by omega))
                      rw [List.take_of_length_le (by rw [stBytes_length]; omega), Nat.sub_self, List.replicate_zero, List.append_nil, ← Hsha.out] at hN1
                      have hsl := sha_length bs
                      have HN := Lib.hid hN1
                      have HO4 := Lib.hid hO4
                      have HB4 := Lib.hid hB4
                      clear hN1 hB hO4 hB4
                      go_wp2_with (first | (refine wpList_load_row rfl 32 (.tmp 7) rfl _ rfl 32 _ (0, 0) _ HN.out und32 rfl (size32 _ (by simp [hsl])) ?_) | (refine wpList_store_row rfl 32 (.tmp 2) (.tmp 66) rfl _ _ rfl rfl 32 _ HO4.out (size32 _ (by simp [hsl])) (by simp [hsl]) (all_oneCell_toArray (oneB _)) ?_))
                      refine bodyPost_ret (results_cell_row rfl _ _ w.heap.size 32 _ (0, 0) _ rfl (setRow_heap _ _ _ _ _ _ HO4.out) und32 rfl (size32 _ (by simp [hsl]))) rfl ⟨rfl, Below.setRow HB4.out (Nat.le_refl _) _⟩
        · have HB := Lib.hid hB
          have Happ := Lib.hid happ
          have hsz3 := hB.size
          clear hB happ hRz
          go_wp2_with (at_builtin; refine wpList_app rfl (.tmp 26) (.tmp 27) 22 rfl 5 i0 (.int .u8 0) 1 Tryd.underlying22 hi0 hz0 hz1 hz2 rfl wc.heap.size (by simp; omega) _ _ _ rfl (Happ.out.below ((Below.refl wr.heap.size wr).alloc (Nat.le_refl _) _) (Nat.le_refl _)) (some ⟨wr.heap.size, 0, none⟩) 1 1 [.int .u8 0] rfl ⟨rfl, by omega, fun _ => ⟨_, _, rfl, fun j u hu => by have := cells_new wr [.int .u8 0] 5 j u hu; rwa [Addr.add_mid] at this⟩⟩ (by simp [Value.oneCell']) (by unfold maxLen; omega) (by omega) ?_; intro v1 w2 happ1 hb1)
          refine ⟨⟨z + 1, by have := Hpd.out; omega, ?_, (HB.out.alloc hsz3 _).trans hb1⟩, ?_⟩
          · have e : rs ++ 0x80 :: List.replicate (z + 1) 0 = (rs ++ 0x80 :: List.replicate z 0) ++ [0] := by rw [List.replicate_succ']; simp
            rw [e, List.map_append]
            exact happ1
          · obtain ⟨A3, c3, rfl, _, _⟩ := happ1.rd
            simp only [slLen]
            have := Hpd.out
            omega
end Go.Proofs.YtgblkaoioeceiaaDoor
