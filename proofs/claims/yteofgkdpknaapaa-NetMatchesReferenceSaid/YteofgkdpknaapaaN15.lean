/- Package net: the reference's Bytes. -/
import Derived.Test.YteofgkdpknaapaaN14
namespace Go.Proofs.Yteofgkdpknaapaa
open Go.RowKit Go.Sort

set_option maxRecDepth 100000 in
theorem RTwo_any (n : Nat) (w : World) (hn : n < 65536) : Calls Try.prog 47 #[.int .i64 (n : Int)] w fun e w' => (∃ A : Option Addr, e = .returned (.slice A 2 2) ∧ Rd w' 1 A 2 ((two n).map byteV)) ∧ Below w.heap.size w w' := by
  have e1 : (n : Int) / 256 = ((UInt8.ofNat (n / 256)).toNat : Int) := by rw [UInt8.toNat_ofNat']; omega
  have e2 := two_mod2 n
  have E1 := Lib.hid e1
  have E2 := Lib.hid e2
  clear e1 e2
  go_enter Try.func47, Try.ntmps47
  go_wp2_with fail
  rw [E1.out, E2.out]
  go_ret
  obtain ⟨w', hw', hb, hr⟩ := lay_bytes w (two n) (by simp [two])
  refine ⟨⟨_, rfl, ?_⟩, ?_⟩
  · have := hr
    rw [hw'] at this
    exact this
  · have := hb
    rw [hw'] at this
    exact this
/-- The last three cells of a signature under a key. -/
theorem row_tail {W : World} {cb o : Nat} {kv : Kv} (h : W.rangeAt cb o (kvC kv)) : W.rangeAt cb (o + 1) (sgV kv.i kv.C kv.n kv.c kv.D kv.m kv.d) := fun q u hq => by
  have := h (q + 1) u (by rw [← hq]; rfl)
  rw [show o + (q + 1) = o + 1 + q by omega] at this
  exact this
set_option maxRecDepth 100000 in
set_option maxHeartbeats 2000000 in
theorem RNBytes_any (v : Pv) (p : Pk) (w : World) (hv : PvOk w v p) (hp : validP p = true) :
    Calls Try.prog 27 #[.agg (pvC v).toArray] w fun e w' => (∃ v', e = .returned v' ∧ AppZ w' w.heap.size 5 1 v' (bytP p).length ((bytP p).map byteV)) ∧ Below w.heap.size w w' := by
  obtain ⟨i0, hi0, hz0, hz1, hz2⟩ := info_parts info5
  have hb1 := b8_wrap v.k
  have hb2 := b8_wrap v.u
  have hb3 := b8_wrap v.n
  obtain ⟨w1, hw1⟩ : ∃ q, q = w.alloc (.cells (pvC v).toArray 39) := ⟨_, rfl⟩
  have hB1 : Below w.heap.size w w1 := by rw [hw1]; exact (Below.refl _ _).alloc (Nat.le_refl _) _
  have hX1 : Blk w1 w.heap.size 39 (pvC v).toArray := by rw [hw1]; exact Blk.new _ _ _
  have p0 : w1.cell? ⟨w.heap.size, 0, none⟩ = some (.int .i64 v.k) := (hX1.cell 0).trans rfl
  have p1 : w1.cell? ⟨w.heap.size, 1, none⟩ = some (.int .i64 v.u) := (hX1.cell 1).trans rfl
  have p2 : w1.cell? ⟨w.heap.size, 2, none⟩ = some (.int .i64 v.n) := (hX1.cell 2).trans rfl
  have hsz1 : w1.heap.size = w.heap.size + 1 := by rw [hw1]; simp
  obtain ⟨hvk, hvu, hvn⟩ := hv.1
  have HV := Lib.hid hv
  have HB1 := Lib.hid hB1
  have HX1 := Lib.hid hX1
  have HW1 := Lib.hid hw1
  have Hkv := Lib.hid hvk
  obtain ⟨w3, hw3⟩ : ∃ q, q = w1.alloc (.cells #[.int .u8 ((b8 v.k).toNat : Int), .int .u8 ((b8 v.u).toNat : Int), .int .u8 ((b8 v.n).toNat : Int)] 5) := ⟨_, rfl⟩
  have hb13 : Below w1.heap.size w1 w3 := by rw [hw3]; exact (Below.refl _ _).alloc (Nat.le_refl _) _
  have hA3 : AppZ w3 w1.heap.size 5 1 (.slice (some ⟨w1.heap.size, 0, none⟩) 3 3) 3 ([b8 p.kind, b8 p.who, b8 p.n].map byteV) := by
    rw [hw3, hvk, hvu, hvn]
    exact .inr (World.ownsRow_lit w1 #[byteV (b8 p.kind), byteV (b8 p.who), byteV (b8 p.n)] 3 (Nat.le_refl _) (by unfold maxLen; omega) rfl)
  rw [hsz1] at hA3
  have HW3 := Lib.hid hw3
  have HB3 := Lib.hid hb13
  have HA3 := Lib.hid hA3
  obtain ⟨hld, hlp, hlb, hls⟩ := hv.lens
  have hsz3 := hb13.size
  clear hv hB1 hX1 hw1 hvk hvu hvn hw3 hb13 hA3
  go_enter Try.func27, Try.ntmps27
  go_upto_region 1 with fail
  rw [← HW1.out]
  go_upto_region 2 with fail
  rw [← HW3.out]
  clear p0 p1 p2 HW1 HW3 hb1 hb2 hb3
  obtain ⟨S', hS'⟩ : ∃ q, q = v.S := ⟨_, rfl⟩
  obtain ⟨P', hP'⟩ : ∃ q, q = v.P := ⟨_, rfl⟩
  have HS := Lib.hid hS'
  have HP := Lib.hid hP'
  clear hS' hP'
  have p0 : w3.cell? ⟨w.heap.size, 0, none⟩ = some (.int .i64 v.k) := ((HX1.out.below HB3.out HX1.out.lt).cell 0).trans rfl
  have p3 : w3.cell? ⟨w.heap.size, 3, none⟩ = some (.slice v.D v.dn v.dc) := ((HX1.out.below HB3.out HX1.out.lt).cell 3).trans rfl
  have p4 : w3.cell? ⟨w.heap.size, 4, none⟩ = some (.slice P' v.pn v.pc) := ((HX1.out.below HB3.out HX1.out.lt).cell 4).trans (by first | (rw [HP.out]; done) | (rw [HP.out]; rfl))
  have p5 : w3.cell? ⟨w.heap.size, 5, none⟩ = some (.slice v.B v.bn v.bc) := ((HX1.out.below HB3.out HX1.out.lt).cell 5).trans rfl
  have p6 : w3.cell? ⟨w.heap.size, 6, none⟩ = some (.slice S' v.sn v.sc) := ((HX1.out.below HB3.out HX1.out.lt).cell 6).trans (by first | (rw [HS.out]; done) | (rw [HS.out]; rfl))
  have hret : ∀ (wr : World) (cur : List UInt8) (A : Option Addr) (c : Nat), AppZ wr (w.heap.size + 1) 5 1 (.slice A cur.length c) cur.length (cur.map byteV) → Below (w.heap.size + 1) w1 wr → cur = bytP p → ((∃ v', Ending.returned (.slice A cur.length c) = .returned v' ∧ AppZ wr w.heap.size 5 1 v' (bytP p).length ((bytP p).map byteV)) ∧ Below w.heap.size w wr) := fun wr cur A c h hb e => by
    refine ⟨⟨_, rfl, ?_⟩, HB1.out.trans (hb.mono (Nat.le_succ _))⟩
    rw [← e]
    exact h.mono (Nat.le_succ _)
  have Hret := Lib.hid hret
  clear hret
  rw [hsz1] at hsz3 HB3
  by_cases hk2 : v.k = 2
  · obtain ⟨hbl, hsl, hgk⟩ := valid_two hp (Hkv.out.symm.trans hk2)
    have hT := RTwo_any v.bn w3 (by omega)
    obtain ⟨x3, hx3⟩ : ∃ x, x = UInt8.ofNat v.sn := ⟨_, rfl⟩
    have hn3 : (x3.toNat : Int) = (v.sn : Int) := by rw [hx3, UInt8.toNat_ofNat']; omega
    have HN3 := Lib.hid hn3
    clear hn3
    have Hx3 := Lib.hid hx3
    clear hx3
    go_wp2_with fail
    refine hT.mono ?_
    rintro e w4 ⟨⟨A4, rfl, hr4⟩, hb4⟩
    have hb4' : Below (w.heap.size + 1) w1 w4 := HB3.out.trans (hb4.mono (by omega))
    have hs4 : w.heap.size + 1 ≤ w4.heap.size := by have := hb4.size; omega
    have Ha4 := Lib.hid (HA3.out.below hb4 (Nat.le_refl _))
    have Hb4 := Lib.hid hb4'
    have Hr4 := Lib.hid hr4
    clear hb4 hb4' hr4 hT p0 p3 p4 p5 p6
    go_upto_region 7 with (first | (at_builtin; refine wpList_appz rfl (.tmp 19) (.tmp 24) 26 rfl 5 i0 (.int .u8 0) 1 1 Try.underlying26 hi0 hz0 hz1 hz2 rfl (by omega) (w.heap.size + 1) hs4 _ _ _ rfl Ha4.out A4 2 2 ((two v.bn).map byteV) rfl Hr4.out (oneB _) (by unfold maxLen; omega) (by omega) ?_; intro v' w5 ha5 hg5; obtain ⟨A5, c5, rfl, hc5, _⟩ := ha5.rd; have hb5 : Below (w.heap.size + 1) w1 w5 := Hb4.out.trans ((Below.refl (w.heap.size + 1) w4).grown hg5 hs4 (fun g e => (Ha4.out.lt g e).1)); have hs5 : w.heap.size + 1 ≤ w5.heap.size := (by have h1 := hb5.size; omega); have q5 : w5.cell? ⟨w.heap.size, 5, none⟩ = some (.slice v.B v.bn v.bc) := ((HX1.out.below hb5 (by omega)).cell 5).trans rfl; have Hr5 := Lib.hid (((HV.out.below HB1.out).below (hb5.mono (by omega))).2.2.2.2.1.1); have Ha5 := Lib.hid ha5; have Hb5 := Lib.hid hb5; clear ha5 hg5 hb5) | (at_builtin; refine wpList_appz rfl (.tmp 26) (.tmp 29) 26 rfl 5 i0 (.int .u8 0) 1 1 Try.underlying26 hi0 hz0 hz1 hz2 rfl (by omega) (w.heap.size + 1) hs5 _ _ _ rfl Ha5.out v.B v.bn v.bc (p.body.map byteV) rfl Hr5.out (oneB _) (by unfold maxLen; omega) (by omega) ?_; intro v' w6 ha6 hg6; obtain ⟨A6, c6, rfl, hc6, _⟩ := ha6.rd; have hb6 : Below (w.heap.size + 1) w1 w6 := Hb5.out.trans ((Below.refl (w.heap.size + 1) w5).grown hg6 hs5 (fun g e => (Ha5.out.lt g e).1)); obtain ⟨w7, hw7, hb67, hr7⟩ := lay_bytes w6 [x3] (by simp); replace hw7 : w7 = w6.alloc (.cells #[.int .u8 (v.sn : Int)] 5) := (by rw [hw7, ← HN3.out]; rfl); have hs7 : w.heap.size + 1 ≤ w7.heap.size := (by have h1 := hb6.size; have h2 := hb67.size; omega); have hb7 : Below (w.heap.size + 1) w1 w7 := hb6.trans (hb67.mono (by have h1 := hb6.size; omega)); have Ha7 := Lib.hid (ha6.below hb67 (Nat.le_refl _)); have q6 : w6.cell? ⟨w.heap.size, 6, none⟩ = some (.slice S' v.sn v.sc) := ((HX1.out.below hb6 (by omega)).cell 6).trans (by first | (rw [HS.out]; done) | (rw [HS.out]; rfl)); have Hb7 := Lib.hid hb7; have Hr7 := Lib.hid hr7; have HW7 := Lib.hid hw7; clear hb6 hb67 hb7 ha6 hg6 hr7 hw7) | (at_builtin; rw [← HW7.out]; refine wpList_appz rfl (.tmp 31) (.tmp 37) 26 rfl 5 i0 (.int .u8 0) 1 1 Try.underlying26 hi0 hz0 hz1 hz2 rfl (by omega) (w.heap.size + 1) hs7 _ _ _ rfl Ha7.out (some ⟨w6.heap.size, 0, none⟩) 1 1 (([x3] : List UInt8).map byteV) rfl Hr7.out (oneB _) (by unfold maxLen; omega) (by omega) ?_; intro v' w8 ha8 hg8; obtain ⟨A8, c8, rfl, hc8, _⟩ := ha8.rd; have hb8 : Below (w.heap.size + 1) w1 w8 := Hb7.out.trans ((Below.refl (w.heap.size + 1) w7).grown hg8 hs7 (fun g e => (Ha7.out.lt g e).1)); have Ha8 := Lib.hid ha8; have Hb8 := Lib.hid hb8; clear ha8 hg8 hb8))
    
    have hcur : (([b8 p.kind, b8 p.who, b8 p.n] ++ two v.bn) ++ p.body) ++ [x3] = curS p 0 := by unfold curS lstB; rw [hls, hlb, Hx3.out]; simp
    have hcl0 : 3 + 2 + v.bn + 1 = (curS p 0).length := by unfold curS lstB two; simp; omega
    have Ha8' := Ha8.out
    rw [hcl0, ← List.map_append, ← List.map_append, ← List.map_append, hcur] at Ha8'
    rw [hcl0]
    replace Ha8 := Lib.hid Ha8'
    clear Ha8' hcur hcl0 Ha7 Hr7 HW7 Hb7 Ha5 Hb5 Hr5 Ha4 Hb4 Hr4 q5 q6
    go_loopw [3, 4] (fun v3 v4 wr => ∃ j : Nat, v4 = .int .i64 (j : Int) ∧ j ≤ v.sn ∧ AppZ wr (w.heap.size + 1) 5 1 v3 (curS p j).length ((curS p j).map byteV) ∧ Below (w.heap.size + 1) w1 wr) (fun _ v4 _ => v.sn - (intOf v4).toNat)
    case atStart => exact ⟨0, rfl, Nat.zero_le _, Ha8.out, Hb8.out⟩
    case round =>
      obtain ⟨j, rfl, hj, hA, hBr⟩ := hrel
      have q6 : wr.cell? ⟨w.heap.size, 6, none⟩ = some (.slice S' v.sn v.sc) := ((HX1.out.below hBr (by omega)).cell 6).trans (by first | (rw [HS.out]; done) | (rw [HS.out]; rfl))
      have HA := Lib.hid hA
      have HBr := Lib.hid hBr
      have hszr := hBr.size
      clear hA hBr Ha8 Hb8
      by_cases hlt : j < v.sn
      · have d1 : decide ((j : Int) < (v.sn : Int)) = true := decide_eq_true (by omega)
        have hjn : (j : Int) < (v.sn : Int) := by omega
        have hj0 : (0 : Int) ≤ (j : Int) := by omega
        obtain ⟨ks, hT, hKs⟩ := (HV.out.below HB1.out).2.2.2.2.2
        rw [← HS.out] at hT
        have hkl : ks.length = v.sn := hT.1.lenf kvC_len (by omega)
        obtain ⟨kv, hkv⟩ : ∃ q, ks[j]? = some q := ⟨_, List.getElem?_eq_getElem (by omega)⟩
        obtain ⟨ky, hky⟩ : ∃ q, p.sigs[j]? = some q := ⟨_, List.getElem?_eq_getElem (by omega)⟩
        obtain ⟨cb, co, hAe, _⟩ := hT.1.2.2 (by omega)
        have hW : ∀ W, Below (w.heap.size + 1) w1 W → W.rangeAt cb (co + j * 4) (kvC kv) ∧ KvOk W kv ky := fun W hb => ⟨rd_row kvC_len (by omega) (hAe ▸ (hT.below (hb.mono (by omega))).1) hkv, (hKs.below (hb.mono (by omega))).2 j kv ky hkv hky⟩
        have HW := Lib.hid hW
        have k0 : wr.cell? ⟨cb, co + j * 4, none⟩ = some (.int .i64 kv.k) := (hW wr HBr.out).1 0 _ rfl
        have hbk := b8_wrap kv.k
        obtain ⟨w5, hw5, hb5, hr5⟩ := lay_bytes wr [b8 kv.k] (by simp)
        replace hw5 : w5 = wr.alloc (.cells #[.int .u8 ((b8 kv.k).toNat : Int)] 5) := hw5
        have hs5 : w.heap.size + 1 ≤ w5.heap.size := by have := hb5.size; omega
        have Ha5 := Lib.hid (HA.out.below hb5 (Nat.le_refl _))
        have Hb5 := Lib.hid (HBr.out.trans (hb5.mono (by omega)))
        have HW5 := Lib.hid hw5
        have Hr5 := Lib.hid hr5
        have Hky := Lib.hid hky
        have hLj := curS_len hbl hsl hgk j
        have hok := (hW wr HBr.out).2
        have hk1 := Lib.hid hok.1
        have hk2' := Lib.hid hok.2.1
        have hfs : formedS ky.s = true := by have h := hgk ky (List.mem_of_getElem? Hky.out); unfold goodK at h; simp at h; exact h.2
        obtain ⟨N0, _, hch, hpa, _⟩ := formedS_of hfs
        have hnl := hok.2.2.2.2.1.1.lenf sumC_len (by omega)
        have hml := hok.2.2.2.2.2.1.lenf sumC_len (by omega)
        obtain ⟨d37, hd37, hrow37⟩ := und37
        clear hT hKs hkl hkv hky hW hw5 hb5 hr5 hok
        subst hAe
        go_wp2_with (first | (refine wpList_load_mid rfl 95 (.tmp 64) rfl cb (co + j * 4 + 1) rfl (sgV kv.i kv.C kv.n kv.c kv.D kv.m kv.d) d37 Hrow6.out hd37 hrow37 (by rw [sgV_len]; kernel_rfl) ?_) | (at_builtin; rw [← HW5.out]; refine wpList_appz rfl (.tmp 47) (.tmp 56) 26 rfl 5 i0 (.int .u8 0) 1 1 Try.underlying26 hi0 hz0 hz1 hz2 rfl (by omega) (w.heap.size + 1) hs5 _ _ _ rfl Ha5.out (some ⟨wr.heap.size, 0, none⟩) 1 1 ([b8 kv.k].map byteV) rfl Hr5.out (oneB _) (by unfold maxLen; omega) (by omega) ?_; intro v' w6 ha6 hg6; obtain ⟨A6, c6, rfl, hc6, _⟩ := ha6.rd; have hb6 : Below (w.heap.size + 1) w1 w6 := Hb5.out.trans ((Below.refl (w.heap.size + 1) w5).grown hg6 hs5 (fun g e => (Ha5.out.lt g e).1)); have r6 : w6.cell? ⟨w.heap.size, 6, none⟩ = some (.slice (some ⟨cb, co, none⟩) v.sn v.sc) := ((HX1.out.below hb6 (by omega)).cell 6).trans (by first | (rw [HS.out]; done) | (rw [HS.out]; rfl)); have Hrow6 := Lib.hid (row_tail (HW.out w6 hb6).1); have Ha6 := Lib.hid ha6; have Hb6 := Lib.hid hb6; clear ha6 hg6 hb6))
        refine (RBytes_any kv.i kv.C kv.D kv.n kv.c kv.m kv.d ky.s.ch ky.s.pa w6 (HW.out w6 Hb6.out).2.2.2.2.2.1.1 (HW.out w6 Hb6.out).2.2.2.2.2.2.1 (by omega) (by omega)).mono ?_
        rintro e w8 ⟨⟨A8, c8, rfl, hc8, hr8⟩, hb8⟩
        have hs6 : w.heap.size + 1 ≤ w6.heap.size := by have h := Hb6.out.size; omega
        have hs8 : w.heap.size + 1 ≤ w8.heap.size := by have h := hb8.size; omega
        have Ha8 := Lib.hid (Ha6.out.below hb8 (Nat.le_refl _))
        have Hb8 := Lib.hid (Hb6.out.trans (hb8.mono hs6))
        have Hr8 := Lib.hid hr8
        clear hb8 hr8 k0 hbk r6
        go_wp2_with (at_builtin; refine wpList_appz rfl (.tmp 58) (.tmp 66) 26 rfl 5 i0 (.int .u8 0) 1 1 Try.underlying26 hi0 hz0 hz1 hz2 rfl (by omega) (w.heap.size + 1) hs8 _ _ _ rfl Ha8.out A8 (2 + 32 * kv.n + 32 * kv.m) c8 (_) rfl Hr8.out (oneB _) (by unfold maxLen; omega) (by omega) ?_; intro v' w9 ha9 hg9; obtain ⟨A9, c9, rfl, hc9, _⟩ := ha9.rd; have Ha9 := Lib.hid ha9; have Hb9 := Lib.hid (show Below (w.heap.size + 1) w1 w9 from Hb8.out.trans ((Below.refl (w.heap.size + 1) w8).grown hg9 hs8 (fun g e => (Ha8.out.lt g e).1))); clear ha9 hg9)
        have hcs : curS p j ++ ([b8 kv.k] ++ bytS ky.s) = curS p (j + 1) := by rw [hk1.out]; exact curS_succ Hky.out
        have hlen : (curS p j).length + 1 + (2 + 32 * kv.n + 32 * kv.m) = (curS p (j + 1)).length := by rw [← hcs, List.length_append, List.length_append, bytS_len, hnl, hml, List.length_singleton]; omega
        refine ⟨⟨j + 1, by push_cast; rfl, by omega, ?_, Hb9.out⟩, by simp only [intOf]; omega⟩
        have h9 := Ha9.out
        rw [hk2'.out, hlen, ← List.map_append, ← List.map_append, List.append_assoc, hcs] at h9
        rw [← hlen] at h9 ⊢
        exact h9
      · have d1 : decide ((j : Int) < (v.sn : Int)) = false := decide_eq_false (by omega)
        have hjn : ¬ (j : Int) < (v.sn : Int) := by omega
        obtain ⟨A, c, rfl, hc, _⟩ := HA.out.rd
        have hfin := Hret.out wr (curS p j) A c HA.out HBr.out (by rw [bytP_two (Hkv.out.symm.trans hk2), show j = p.sigs.length by omega])
        have Hfin := Lib.hid hfin
        clear hfin
        have q0 : wr.cell? ⟨w.heap.size, 0, none⟩ = some (.int .i64 v.k) := ((HX1.out.below HBr.out (by omega)).cell 0).trans rfl
        go_wp2_with fail
        go_ret
        exact Hfin.out
  · by_cases hk4 : v.k = 4
    · obtain ⟨hdl, hpl⟩ := valid_four hp (Hkv.out.symm.trans hk4)
      have hT := RTwo_any v.dn w3 (by omega)
      obtain ⟨x3, hx3⟩ : ∃ x, x = UInt8.ofNat v.pn := ⟨_, rfl⟩
      have hn3 : (x3.toNat : Int) = (v.pn : Int) := by rw [hx3, UInt8.toNat_ofNat']; omega
      have HN3 := Lib.hid hn3
      clear hn3
      have Hx3 := Lib.hid hx3
      clear hx3
      go_wp2_with fail
      refine hT.mono ?_
      rintro e w4 ⟨⟨A4, rfl, hr4⟩, hb4⟩
      have hb4' : Below (w.heap.size + 1) w1 w4 := HB3.out.trans (hb4.mono (by omega))
      have hs4 : w.heap.size + 1 ≤ w4.heap.size := by have := hb4.size; omega
      have Ha4 := Lib.hid (HA3.out.below hb4 (Nat.le_refl _))
      have Hb4 := Lib.hid hb4'
      have Hr4 := Lib.hid hr4
      clear hb4 hb4' hr4 hT p0 p3 p4 p5 p6
      go_upto_region 16 with (first | (at_builtin; refine wpList_appz rfl (.tmp 71) (.tmp 75) 26 rfl 5 i0 (.int .u8 0) 1 1 Try.underlying26 hi0 hz0 hz1 hz2 rfl (by omega) (w.heap.size + 1) hs4 _ _ _ rfl Ha4.out A4 2 2 ((two v.dn).map byteV) rfl Hr4.out (oneB _) (by unfold maxLen; omega) (by omega) ?_; intro v' w5 ha5 hg5; obtain ⟨A5, c5, rfl, hc5, _⟩ := ha5.rd; have hb5 : Below (w.heap.size + 1) w1 w5 := Hb4.out.trans ((Below.refl (w.heap.size + 1) w4).grown hg5 hs4 (fun g e => (Ha4.out.lt g e).1)); have hs5 : w.heap.size + 1 ≤ w5.heap.size := (by have h1 := hb5.size; omega); have q5 : w5.cell? ⟨w.heap.size, 3, none⟩ = some (.slice v.D v.dn v.dc) := ((HX1.out.below hb5 (by omega)).cell 3).trans rfl; have Hr5 := Lib.hid (((HV.out.below HB1.out).below (hb5.mono (by omega))).2.2.1.1); have Ha5 := Lib.hid ha5; have Hb5 := Lib.hid hb5; clear ha5 hg5 hb5) | (at_builtin; refine wpList_appz rfl (.tmp 77) (.tmp 79) 26 rfl 5 i0 (.int .u8 0) 1 1 Try.underlying26 hi0 hz0 hz1 hz2 rfl (by omega) (w.heap.size + 1) hs5 _ _ _ rfl Ha5.out v.D v.dn v.dc (p.data.map byteV) rfl Hr5.out (oneB _) (by unfold maxLen; omega) (by omega) ?_; intro v' w6 ha6 hg6; obtain ⟨A6, c6, rfl, hc6, _⟩ := ha6.rd; have hb6 : Below (w.heap.size + 1) w1 w6 := Hb5.out.trans ((Below.refl (w.heap.size + 1) w5).grown hg6 hs5 (fun g e => (Ha5.out.lt g e).1)); obtain ⟨w7, hw7, hb67, hr7⟩ := lay_bytes w6 [x3] (by simp); replace hw7 : w7 = w6.alloc (.cells #[.int .u8 (v.pn : Int)] 5) := (by rw [hw7, ← HN3.out]; rfl); have hs7 : w.heap.size + 1 ≤ w7.heap.size := (by have h1 := hb6.size; have h2 := hb67.size; omega); have hb7 : Below (w.heap.size + 1) w1 w7 := hb6.trans (hb67.mono (by have h1 := hb6.size; omega)); have Ha7 := Lib.hid (ha6.below hb67 (Nat.le_refl _)); have q6 : w6.cell? ⟨w.heap.size, 4, none⟩ = some (.slice P' v.pn v.pc) := ((HX1.out.below hb6 (by omega)).cell 4).trans (by first | (rw [HP.out]; done) | (rw [HP.out]; rfl)); have Hb7 := Lib.hid hb7; have Hr7 := Lib.hid hr7; have HW7 := Lib.hid hw7; clear hb6 hb67 hb7 ha6 hg6 hr7 hw7) | (at_builtin; rw [← HW7.out]; refine wpList_appz rfl (.tmp 81) (.tmp 86) 26 rfl 5 i0 (.int .u8 0) 1 1 Try.underlying26 hi0 hz0 hz1 hz2 rfl (by omega) (w.heap.size + 1) hs7 _ _ _ rfl Ha7.out (some ⟨w6.heap.size, 0, none⟩) 1 1 (([x3] : List UInt8).map byteV) rfl Hr7.out (oneB _) (by unfold maxLen; omega) (by omega) ?_; intro v' w8 ha8 hg8; obtain ⟨A8, c8, rfl, hc8, _⟩ := ha8.rd; have hb8 : Below (w.heap.size + 1) w1 w8 := Hb7.out.trans ((Below.refl (w.heap.size + 1) w7).grown hg8 hs7 (fun g e => (Ha7.out.lt g e).1)); have Ha8 := Lib.hid ha8; have Hb8 := Lib.hid hb8; clear ha8 hg8 hb8))
      
      have hcur : (([b8 p.kind, b8 p.who, b8 p.n] ++ two v.dn) ++ p.data) ++ [x3] = curD p 0 := by unfold curD lstB; rw [hlp, hld, Hx3.out]; simp
      have hcl0 : 3 + 2 + v.dn + 1 = (curD p 0).length := by unfold curD lstB two; simp; omega
      have Ha8' := Ha8.out
      rw [hcl0, ← List.map_append, ← List.map_append, ← List.map_append, hcur] at Ha8'
      rw [hcl0]
      replace Ha8 := Lib.hid Ha8'
      clear Ha8' hcur hcl0 Ha7 Hr7 HW7 Hb7 Ha5 Hb5 Hr5 Ha4 Hb4 Hr4 q5 q6
      go_loopw [3, 5] (fun v3 v5 wr => ∃ j : Nat, v5 = .int .i64 (j : Int) ∧ j ≤ v.pn ∧ AppZ wr (w.heap.size + 1) 5 1 v3 (curD p j).length ((curD p j).map byteV) ∧ Below (w.heap.size + 1) w1 wr) (fun _ v5 _ => v.pn - (intOf v5).toNat)
      case atStart => exact ⟨0, rfl, Nat.zero_le _, Ha8.out, Hb8.out⟩
      case round =>
        obtain ⟨j, rfl, hj, hA, hBr⟩ := hrel
        have q4 : wr.cell? ⟨w.heap.size, 4, none⟩ = some (.slice P' v.pn v.pc) := ((HX1.out.below hBr (by omega)).cell 4).trans (by first | (rw [HP.out]; done) | (rw [HP.out]; rfl))
        have HA := Lib.hid hA
        have HBr := Lib.hid hBr
        have hszr : w.heap.size + 1 ≤ wr.heap.size := by have := hBr.size; omega
        clear hA hBr Ha8 Hb8
        by_cases hlt : j < v.pn
        · have d1 : decide ((j : Int) < (v.pn : Int)) = true := decide_eq_true (by omega)
          have hjn : (j : Int) < (v.pn : Int) := by omega
          have hj0 : (0 : Int) ≤ (j : Int) := by omega
          have hT := ((HV.out.below HB1.out).below (HBr.out.mono (by omega))).2.2.2.1.1
          rw [← HP.out] at hT
          obtain ⟨x, hx⟩ : ∃ q, p.proof[j]? = some q := ⟨_, List.getElem?_eq_getElem (by omega)⟩
          obtain ⟨cb, co, hAe, _⟩ := hT.2.2 (by omega)
          have hxr : wr.rangeAt cb (co + j * 32) (sumC x) := rd_row sumC_len (by omega) (hAe ▸ hT) hx
          have Hx := Lib.hid (show Rd wr 1 (some ⟨cb, co + j * 32, none⟩) 32 (sumC x) from ⟨by rw [sumC_len], by omega, fun _ => ⟨cb, co + j * 32, rfl, hxr⟩⟩)
          have hcs := Lib.hid (curD_succ hx)
          have hLj := curD_len hdl hpl j
          have hx2 := x.2
          clear hT hx hxr
          subst hAe
          go_wp2_with (at_builtin; refine wpList_appz rfl (.tmp 95) (.tmp 100) 26 rfl 5 i0 (.int .u8 0) 1 1 Try.underlying26 hi0 hz0 hz1 hz2 rfl (by omega) (w.heap.size + 1) hszr _ _ _ rfl HA.out (some ⟨cb, co + j * 32, none⟩) 32 32 (sumC x) rfl Hx.out (oneB _) (by unfold maxLen; omega) (by omega) ?_; intro v' w9 ha9 hg9; obtain ⟨A9, c9, rfl, hc9, _⟩ := ha9.rd; have Ha9 := Lib.hid ha9; have Hb9 := Lib.hid (show Below (w.heap.size + 1) w1 w9 from HBr.out.trans ((Below.refl (w.heap.size + 1) wr).grown hg9 hszr (fun g e => (HA.out.lt g e).1))); clear ha9 hg9)
          have hlen : (curD p j).length + 32 = (curD p (j + 1)).length := by rw [← hcs.out, List.length_append, hx2]
          refine ⟨⟨j + 1, by push_cast; rfl, by omega, ?_, Hb9.out⟩, by simp only [intOf]; omega⟩
          have h9 := Ha9.out
          rw [show sumC x = x.1.map byteV from rfl, ← List.map_append, hcs.out] at h9
          rw [← hlen]
          exact h9
        · have d1 : decide ((j : Int) < (v.pn : Int)) = false := decide_eq_false (by omega)
          have hjn : ¬ (j : Int) < (v.pn : Int) := by omega
          obtain ⟨A, c, rfl, hc, _⟩ := HA.out.rd
          have hfin := Hret.out wr (curD p j) A c HA.out HBr.out (by rw [bytP_four (Hkv.out.symm.trans hk4), show j = p.proof.length by omega])
          have Hfin := Lib.hid hfin
          clear hfin
          go_wp2_with fail
          go_ret
          exact Hfin.out
    · have hfin := Hret.out w3 [b8 p.kind, b8 p.who, b8 p.n] _ _ HA3.out HB3.out (bytP_none (fun h => hk2 (Hkv.out.trans h)) (fun h => hk4 (Hkv.out.trans h))).symm
      have Hfin := Lib.hid hfin
      clear hfin
      go_wp2_with fail
      go_ret
      exact Hfin.out
end Go.Proofs.Yteofgkdpknaapaa
