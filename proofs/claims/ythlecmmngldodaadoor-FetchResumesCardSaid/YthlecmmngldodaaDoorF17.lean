/- The law FetchCuts. -/
import Derived.Test.YthlecmmngldodaaDoorF16
import Derived.Test.YthlecmmngldodaaDoorF7
namespace Go.Proofs.YthlecmmngldodaaDoor
open Go.RowKit Go.Sort

theorem cutL_get (bs : List UInt8) {k : Nat} (hk : k < (bs.length + 1023) / 1024) : (cutL bs)[k]? = some (cutAt bs k) := by
  unfold cutL
  rw [List.getElem?_map, List.getElem?_range hk]; rfl
theorem cutAt_len (bs : List UInt8) (k : Nat) : (cutAt bs k).length = min 1024 (bs.length - 1024 * k) := by
  unfold cutAt
  rw [List.length_drop, List.length_take]
  omega
theorem cutL_flat (bs : List UInt8) : ∀ k, k ≤ (bs.length + 1023) / 1024 → ((cutL bs).take k).flatten = bs.take (1024 * k)
  | 0, _ => by simp
  | k + 1, hk => by
    rw [flat_succ (cutL_get bs (show k < (bs.length + 1023) / 1024 by omega)), cutL_flat bs k (by omega)]
    unfold cutAt
    rw [show 1024 * (k + 1) = 1024 * k + 1024 from by omega]
    rw [show bs.take (1024 * k) = (bs.take (1024 * k + 1024)).take (1024 * k) from by rw [List.take_take]; congr 1; omega]
    exact List.take_append_drop _ _
theorem cutL_all (bs : List UInt8) : (cutL bs).flatten = bs := by
  have := cutL_flat bs ((bs.length + 1023) / 1024) (Nat.le_refl _)
  rw [List.take_of_length_le (by rw [cutL_len]; exact Nat.le_refl _), List.take_of_length_le (by omega)] at this
  exact this
theorem cut_proper (bs : List UInt8) {k : Nat} (hk : k < (bs.length + 1023) / 1024) : properB (cutAt bs k).length (k : Int) (((bs.length + 1023) / 1024 : Nat) : Int) = true := by
  rw [cutAt_len]
  unfold properB
  split
  · exact decide_eq_true (by omega)
  · exact decide_eq_true (by omega)

set_option maxRecDepth 100000 in
set_option maxHeartbeats 2000000 in
theorem FetchCuts_any (A : Option Addr) (len cap : Nat) (bs : List UInt8) (x : Int) (w : World) (hg : Globs w) (hr : Rd w 1 A len (bs.map byteV)) (hcap : len ≤ cap) (hx : 0 ≤ x ∧ x ≤ 65535) :
    Calls Tryd.prog 4 #[.slice A len cap, .int .u16 x] w fun e w' => e = .returned (.bool true) ∧ Below w.heap.size w w' := by
  obtain ⟨n, rfl⟩ : ∃ n : Nat, x = (n : Int) := ⟨x.toNat, by omega⟩
  obtain ⟨i0, hi0, hz0, hz1, hz2⟩ := info_parts info5
  have Hr := Lib.hid hr
  have Hg := Lib.hid hg
  have Hs := Lib.hid (Sanity_any w hg)
  clear hr hg
  go_enter Tryd.func4, Tryd.ntmps4
  go_wp2_with fail
  refine Hs.out.mono ?_
  rintro e w1 ⟨rfl, hb1⟩
  have Hl := Lib.hid (Long_any A len cap n bs (by omega) w1 (Hr.out.below hb1))
  have HB1 := Lib.hid hb1
  clear hb1 Hs Hr
  go_wp2_with fail
  refine Hl.out.mono ?_
  rintro e w2 ⟨A2, c2, rfl, hc2, hr2, hb2⟩
  obtain ⟨X, hX⟩ : ∃ X, X = longL bs n := ⟨_, rfl⟩
  have hXl : X.length = 1 + n % 4000 := by rw [hX]; exact longL_len bs n
  rw [← hX] at hr2
  clear hX
  obtain ⟨L, hL⟩ : ∃ L, L = 1 + n % 4000 := ⟨_, rfl⟩
  have hL1 : 0 < L := by omega
  have hL2 : L ≤ 4000 := by omega
  rw [← hL] at hr2 hc2 hXl ⊢
  clear hL
  have Hc := Lib.hid (Cut_any A2 L c2 X w2 hr2 hL1 (by omega) hc2)
  have Hr2 := Lib.hid hr2
  have HB2 := Lib.hid (HB1.out.trans (hb2.mono HB1.out.size))
  have HXl := Lib.hid hXl
  clear hr2 hb2 Hl HB1 hXl
  go_upto_region 4 with fail
  refine Hc.out.mono ?_
  rintro e w3 ⟨A3, c3, rfl, hc3, hl3, hb3⟩
  obtain ⟨m, hm⟩ : ∃ m, m = (L + 1023) / 1024 := ⟨_, rfl⟩
  rw [← hm] at hl3 hc3 ⊢
  have hmi : ((L : Int) + 1023) / 1024 = (m : Int) := by omega
  have hme : ((m : Int) == (m : Int)) = true := beq_self_eq_true _
  have hmn : ((m : Int) != (m : Int)) = false := by simp
  have HL3 := Lib.hid hl3
  have Hr3 := Lib.hid (Hr2.out.below hb3)
  have HB3 := Lib.hid (HB2.out.trans (hb3.mono HB2.out.size))
  have Hm := Lib.hid hm
  have hm4 : m ≤ 4 := by omega
  clear hl3 hb3 Hc Hr2 HB2 hm
  go_wp2_with fail
  clear hmi hme hmn
  have Hmc := Lib.hid (show m = (X.length + 1023) / 1024 by rw [HXl.out]; exact Hm.out)
  go_loopw [9, 10] (fun v9 v10 wr => ∃ k : Nat, k ≤ m ∧ v10 = .int .i64 (k : Int) ∧ App wr w3.heap.size 5 v9 ((cutL X).take k).flatten.length (((cutL X).take k).flatten.map byteV) ∧ Below w3.heap.size w3 wr) (fun _ v10 _ => m - (intOf v10).toNat)
  case atStart => exact ⟨0, by omega, rfl, .inl ⟨rfl, rfl, _, rfl⟩, (Below.refl _ _).alloc (Nat.le_refl _) _⟩
  case round =>
    obtain ⟨k, hk, rfl, happ, hB⟩ := hrel
    have hsz := hB.size
    by_cases hlt : k < m
    · obtain ⟨b, off, v, y, rfl, hy, cy, hry, hvc⟩ := (HL3.out.below hB).at_ hlt
      rw [cutL_get X (by rw [← Hmc.out]; exact hlt)] at hy
      obtain rfl : cutAt X k = y := Option.some.inj hy
      have hvn := hry.len1
      have hpr := cut_proper X (k := k) (by rw [← Hmc.out]; exact hlt)
      rw [← Hmc.out, hvn] at hpr
      have hf := flat_succ (cutL_get X (k := k) (by rw [← Hmc.out]; exact hlt))
      have h1 : ((cutL X).take (k + 1)).flatten.length ≤ L := by
        rw [cutL_flat X (k + 1) (by rw [← Hmc.out]; omega), List.length_take, HXl.out]; omega
      have hfl2 : ((cutL X).take (k + 1)).flatten.length = ((cutL X).take k).flatten.length + v.n := by rw [hf, List.length_append, hvn]
      have hfm : ((cutL X).take (k + 1)).flatten.map byteV = ((cutL X).take k).flatten.map byteV ++ (cutAt X k).map byteV := by rw [hf, List.map_append]
      rw [hfl2] at h1
      have hvl := hry.le
      have hp := RProper_any v.a v.n v.c (k : Int) (m : Int) (by omega) hvl wr
      rw [hpr] at hp
      have Hp := Lib.hid hp
      have Happ := Lib.hid happ
      have HB := Lib.hid hB
      have Hry := Lib.hid hry
      have Hfl2 := Lib.hid hfl2
      have Hfm := Lib.hid hfm
      have Hone := Lib.hid (oneB (cutAt X k))
      clear happ hB hry hfl2 hfm hf hy hpr hp hvn
      generalize ((cutL X).take k).flatten.length = S at *
      generalize ((cutL X).take k).flatten.map byteV = SB at *
      go_wp2_with fail
      refine Hp.out.mono ?_
      rintro e w4 ⟨rfl, hw4⟩
      subst hw4
      go_wp2_with (at_builtin; go_loud (refine wpList_app rfl (.tmp 47) (.tmp 51) 22 rfl 5 i0 (.int .u8 0) 1 Tryd.underlying22 hi0 hz0 hz1 hz2 rfl w3.heap.size (by omega) _ _ _ rfl Happ.out v.a v.n v.c ((cutAt X k).map byteV) rfl Hry.out Hone.out (by unfold maxLen; omega) (by omega) ?_; intro v1 w5 happ1 hb1))
      exact ⟨⟨k + 1, by omega, by go_num, by rw [Hfl2.out, Hfm.out]; exact happ1, HB.out.trans hb1⟩, by simp [intOf]; omega⟩
    · obtain rfl : k = m := by omega
      have ht : (cutL X).take k = cutL X := List.take_of_length_le (by rw [cutL_len, ← Hmc.out]; exact Nat.le_refl _)
      rw [ht, cutL_all, HXl.out] at happ
      obtain ⟨A', c', rfl, _, hR⟩ := happ.rd
      have h1 : (convert 22 9 (.slice A' L c')).run Tryd.prog wr = .ok (.string (str X)) wr := convert_bytes A' L c' X _ hR
      have h2 : (convert 22 9 (.slice A2 L c2)).run Tryd.prog wr = .ok (.string (str X)) wr := convert_bytes A2 L c2 X _ (Hr3.out.below hB)
      have hsb : ((str X).toList == (str X).toList) = true := by rw [str_beq, decide_eq_true rfl]
      have HB := Lib.hid hB
      clear hB happ ht hR
      go_wp2_with fail
      go_ret
      exact ⟨rfl, HB3.out.trans (HB.out.mono HB3.out.size)⟩
end Go.Proofs.YthlecmmngldodaaDoor
