/- The reference's Signed. -/
import Derived.Test.YteofgkdpknaapaaN24
import Derived.Deep.CutRange
namespace Go.Proofs.Yteofgkdpknaapaa
open Go.RowKit Go.Sort

theorem formB_eq (s : Sg) : formB s.i s.ch.length s.pa.length = formedS s := rfl
theorem signed_bad {body : List UInt8} {sigs : List Ky} {j : Nat} {x : Ky} (hx : sigs[j]? = some x) (h : goodK x = false) : signedP body sigs = false := by
  unfold signedP
  rw [Bool.and_eq_false_iff]
  refine .inr (List.all_eq_false.2 ⟨x, List.mem_of_getElem? hx, by rw [h]; decide⟩)
set_option maxRecDepth 100000 in
set_option maxHeartbeats 1000000 in
theorem Signed_any (B : Option Addr) (bn bc : Nat) (S : Option Addr) (sn sc : Nat) (body : List UInt8) (sigs : List Ky) (w : World) (hb : body.length = bn) (hs : SgsAt w S sn sigs) :
    Calls Try.prog 49 #[.agg (sdC B bn bc S sn sc).toArray] w fun e w' => e = .returned (.bool (signedP body sigs)) ∧ Below w.heap.size w w' := by
  obtain ⟨R, hR⟩ : ∃ R, R = signedP body sigs := ⟨_, rfl⟩
  rw [← hR]
  have HR := Lib.hid hR
  have hsl := hs.len
  obtain ⟨d37, hd37, hrow37⟩ := und37
  obtain ⟨w1, hw1⟩ : ∃ q, q = w.alloc (.cells (sdC B bn bc S sn sc).toArray 37) := ⟨_, rfl⟩
  have hB1 : Below w.heap.size w w1 := by rw [hw1]; exact (Below.refl _ _).alloc (Nat.le_refl _) _
  have hX1 : Blk w1 w.heap.size 37 (sdC B bn bc S sn sc).toArray := by rw [hw1]; exact Blk.new _ _ _
  have x0 : w1.cell? ⟨w.heap.size, 0, none⟩ = some (.slice B bn bc) := (hX1.cell 0).trans rfl
  have x1 : w1.cell? ⟨w.heap.size, 1, none⟩ = some (.slice S sn sc) := (hX1.cell 1).trans rfl
  have HW1 := Lib.hid hw1
  have HX := Lib.hid hX1
  have HB := Lib.hid hB1
  have HS := Lib.hid (hs.below hB1)
  have Hbl := Lib.hid hb
  have Hsl := Lib.hid hsl
  clear hw1 hX1 hB1 hs hb hR hsl
  go_enter Try.func49, Try.ntmps49
  go_upto_region 1 with fail
  rw [← HW1.out]
  by_cases h1 : 4096 < bn
  · have d1 : decide ((bn : Int) > 4096) = true := decide_eq_true (by omega)
    have d1' : (4096 : Int) < (bn : Int) := by omega
    have Hr := Lib.hid (show R = false by
      rw [HR.out]
      unfold signedP
      rw [decide_eq_false (by have := Hbl.out; omega)]
      rfl)
    go_wp2_with fail
    go_ret
    exact ⟨by rw [Hr.out]; first | done | rfl, HB.out⟩
  have d1 : decide ((bn : Int) > 4096) = false := decide_eq_false (by omega)
  have d1' : ¬ (4096 : Int) < (bn : Int) := by omega
  by_cases h2 : 16 < sn
  · have d2 : decide ((sn : Int) > 16) = true := decide_eq_true (by omega)
    have d2' : (16 : Int) < (sn : Int) := by omega
    have Hr := Lib.hid (show R = false by
      rw [HR.out]
      unfold signedP
      rw [decide_eq_false (by have := Hsl.out; omega)]
      rfl)
    go_wp2_with fail
    go_ret
    exact ⟨by rw [Hr.out]; first | done | rfl, HB.out⟩
  have d2 : decide ((sn : Int) > 16) = false := decide_eq_false (by omega)
  have d2' : ¬ (16 : Int) < (sn : Int) := by omega
  go_upto_region 4 with fail
  clear d1 d1' d2 d2' x0 x1
  go_loopw [3] (fun v3 wr => ∃ j : Nat, v3 = .int .i64 (j : Int) ∧ j ≤ sn ∧ (∀ x ∈ sigs.take j, goodK x = true) ∧ Below w1.heap.size w1 wr) (fun v3 _ => sn - (intOf v3).toNat)
  case atStart => exact ⟨0, rfl, Nat.zero_le _, fun x hx => by simp at hx, Below.refl _ _⟩
  case round =>
    obtain ⟨j, rfl, hj, hgd, hBr⟩ := hrel
    have x1 : wr.cell? ⟨w.heap.size, 1, none⟩ = some (.slice S sn sc) := ((HX.out.below hBr HX.out.lt).cell 1).trans rfl
    have HBr := Lib.hid hBr
    have Hgd := Lib.hid hgd
    have HB' := Lib.hid (HB.out.trans (hBr.mono HB.out.size))
    clear hBr hgd
    by_cases hlt : j < sn
    · have dj : decide ((j : Int) < (sn : Int)) = true := decide_eq_true (by omega)
      have hj1 : (j : Int) < (sn : Int) := by omega
      have hj0 : (0 : Int) ≤ (j : Int) := by omega
      have hjw : IntKind.i64.wrap ((j : Int) + 1) = (j : Int) + 1 := by rw [IntKind.wrap_i64]; omega
      obtain ⟨ks, hT, hK⟩ := HS.out
      have hkl := hT.1.lenf kvC_len (by omega)
      obtain ⟨kv, hkv⟩ : ∃ q, ks[j]? = some q := ⟨_, List.getElem?_eq_getElem (by omega)⟩
      obtain ⟨ky, hky⟩ : ∃ q, sigs[j]? = some q := ⟨_, List.getElem?_eq_getElem (by have := Hsl.out; omega)⟩
      obtain ⟨cb, co, e1, _⟩ := hT.1.2.2 (by omega)
      subst e1
      have hrow : wr.rangeAt cb (co + j * 4) (kvC kv) := rd_row kvC_len (by omega) (hT.below HBr.out).1 hkv
      have hok : KvOk wr kv ky := (hK.below HBr.out).2 j kv ky hkv hky
      have hln1 := hok.2.2.2.2.1.1.lenf sumC_len (by omega)
      have hln2 := hok.2.2.2.2.2.1.lenf sumC_len (by omega)
      have k0 : wr.cell? ⟨cb, co + j * 4, none⟩ = some (.int .i64 kv.k) := hrow 0 _ rfl
      have hrg : wr.rangeAt cb (co + j * 4 + 1) (sgV kv.i kv.C kv.n kv.c kv.D kv.m kv.d) := fun q u hq => by
        rw [Nat.add_assoc]
        exact hrow (1 + q) u (by rw [Nat.add_comm]; exact hq)
      have hgk : goodK ky = (decide (0 ≤ kv.k ∧ kv.k ≤ 15) && formB kv.i kv.n kv.m) := by
        unfold goodK
        rw [← formB_eq, hok.1, hok.2.1, hln1, hln2]
      have Hgk := Lib.hid hgk
      have Hky := Lib.hid hky
      have Hrg := Lib.hid hrg
      clear hgk hky hrg hrow hok hln1 hln2 hT hK hkv hkl
      by_cases ha : kv.k < 0
      · have da : decide (kv.k < 0) = true := decide_eq_true ha
        have Hr := Lib.hid (show R = false by
          rw [HR.out]
          exact signed_bad Hky.out (by rw [Hgk.out, decide_eq_false (by omega)]; rfl))
        go_wp2_with fail
        go_ret
        exact ⟨by rw [Hr.out]; first | done | rfl, HB'.out⟩
      have da : decide (kv.k < 0) = false := decide_eq_false ha
      by_cases hc : 15 < kv.k
      · have dc : decide (kv.k > 15) = true := decide_eq_true hc
        have Hr := Lib.hid (show R = false by
          rw [HR.out]
          exact signed_bad Hky.out (by rw [Hgk.out, decide_eq_false (by omega)]; rfl))
        go_wp2_with fail
        go_ret
        exact ⟨by rw [Hr.out]; first | done | rfl, HB'.out⟩
      have dc : decide (kv.k > 15) = false := decide_eq_false hc
      have Hk15 := Lib.hid (And.intro (show 0 ≤ kv.k by omega) (show kv.k ≤ 15 by omega))
      go_wp2_with (refine wpList_load_mid_g (by first | rfl | simp [Region.wanted, yielded]) 95 (.tmp 42) rfl cb (co + j * 4 + 1) rfl (sgV kv.i kv.C kv.n kv.c kv.D kv.m kv.d) d37 Hrg.out hd37 hrow37 (by kernel_rfl) ?_)
      refine (RFormed_any kv.i kv.C kv.n kv.c kv.D kv.m kv.d wr).mono ?_
      rintro e w4 ⟨rfl, hb4⟩
      obtain ⟨fv, hfv⟩ : ∃ q, q = formB kv.i kv.n kv.m := ⟨_, rfl⟩
      rw [← hfv]
      have Hfv := Lib.hid hfv
      have HB4 := Lib.hid (HB'.out.trans (hb4.mono HB'.out.size))
      have HBr4 := Lib.hid (HBr.out.trans (hb4.mono HBr.out.size))
      clear hfv hb4
      cases fv with
      | false =>
        have Hr := Lib.hid (show R = false by
          rw [HR.out]
          exact signed_bad Hky.out (by rw [Hgk.out, ← Hfv.out, Bool.and_false]))
        go_wp2_with fail
        go_ret
        exact ⟨by rw [Hr.out]; first | done | rfl, HB4.out⟩
      | true =>
        go_wp2_with fail
        refine ⟨⟨j + 1, by push_cast; rfl, by omega, fun x hx => ?_, HBr4.out⟩, by simp only [intOf]; omega⟩
        rw [List.take_add_one, Hky.out] at hx
        rcases List.mem_append.1 hx with h | h
        · exact Hgd.out x h
        · simp at h
          rw [h, Hgk.out, ← Hfv.out, decide_eq_true Hk15.out]
          rfl
    · have dj : decide ((j : Int) < (sn : Int)) = false := decide_eq_false (by omega)
      have hj1 : ¬ (j : Int) < (sn : Int) := by omega
      have Hr := Lib.hid (show R = true by
        rw [HR.out]
        unfold signedP
        rw [decide_eq_true (by have := Hbl.out; have := Hsl.out; omega), Bool.true_and, List.all_eq_true]
        have h := Hgd.out
        rwa [List.take_of_length_le (by have := Hsl.out; omega)] at h)
      go_wp2_with fail
      go_ret
      exact ⟨by rw [Hr.out]; first | done | rfl, HB'.out⟩
end Go.Proofs.Yteofgkdpknaapaa
