/- The reference's Proof. -/
import Derived.Test.YtgblkaoioeceiaaDoorRRoot
namespace Go.Proofs.YtgblkaoioeceiaaDoor
open Go.RowKit Go.Sort

set_option maxRecDepth 100000 in
set_option maxHeartbeats 1000000 in
theorem RProof_bad (A : Option Addr) (len cap : Nat) (i : Int) (hi : i < 0 ∨ (len : Int) ≤ i) (w : World) (_hl : len ≤ 9223372036854775807) :
    Calls Tryd.prog 13 #[.slice A len cap, .int .i64 i] w fun e w' => e = .returned (.tuple #[.slice none 0 0, .int .i64 1]) ∧ w' = w := by
  go_enter Tryd.func13, Tryd.ntmps13
  by_cases h0 : i < 0
  · go_wp2
    go_ret2
    exact ⟨rfl, rfl⟩
  · have h1 : (len : Int) ≤ i := by omega
    clear hi
    go_wp2
    go_ret2
    exact ⟨rfl, rfl⟩

set_option maxRecDepth 100000 in
set_option maxHeartbeats 2000000 in
theorem RProof_any (A : Option Addr) (len cap i : Nat) (cs : List (List UInt8)) (w : World) (hr : Lst w A len cs) (hlen : len ≤ 1000000) (hcs : ∀ c ∈ cs, c.length ≤ 8796093021000) (hi : i < len) :
    Calls Tryd.prog 13 #[.slice A len cap, .int .i64 (i : Int)] w fun e w' => ∃ A' n' c', e = .returned (.tuple #[.slice A' n' c', .int .i64 0]) ∧ n' ≤ c' ∧ Rd w' 32 A' n' ((proofL (cs.map leafS) i).flatMap sumC) ∧ Below w.heap.size w w' ∧ (∀ b off, A' = some ⟨b, off, none⟩ → w.heap.size ≤ b) := by
  obtain ⟨i0, hi0, hz0, hz1, hz2⟩ := info_parts info32
  have hl := hr.len
  have hlv := RLeaves_any A len cap cs w hr hlen hcs
  have hll : (cs.map leafS).length = len := by rw [List.length_map, hl]
  obtain ⟨tgt, htgt⟩ : ∃ t, proofL (cs.map leafS) i = t := ⟨_, rfl⟩
  rw [htgt]
  generalize cs.map leafS = ls at *
  have Htg := Lib.hid htgt
  have Hlv := Lib.hid hlv
  clear hlv hr hcs hl htgt
  go_enter Tryd.func13, Tryd.ntmps13
  go_wp2_with fail
  refine Hlv.out.mono ?_
  rintro e w2 ⟨A2, c2, rfl, hc2, hrd2, hb2, hnew2⟩
  have hown : (w2.alloc (.cells #[] 32)).ownsRow w.heap.size 32 32 (.slice (some ⟨w2.heap.size, 0, none⟩) 0 0) 0 [] := (own_empty w2 32 32).mono hb2.size
  have hlt2 : ∀ b off, A2 = some ⟨b, off, none⟩ → b < w2.heap.size := fun b off e => hrd2.lt (by omega) (by omega) e
  have Hown := Lib.hid hown
  have Hrd2 := Lib.hid hrd2
  have HB2 := Lib.hid hb2
  have Hlt2 := Lib.hid hlt2
  clear hb2 hown hlt2 hrd2
  go_wp2_with fail
  go_loopw [1, 6, 7] (fun vi vl vo wr => ∃ (k n c' : Nat) (A' : Option Addr) (ys out : List Sum32), vi = .int .i64 (k : Int) ∧ vl = .slice A' n c' ∧ k < n ∧ out.length + n ≤ len ∧ Rd wr 32 A' n (ys.flatMap sumC) ∧ wr.ownsRow w.heap.size 32 32 vo out.length (out.flatMap sumC) ∧ out ++ proofL ys k = tgt ∧ Below w.heap.size w wr ∧ (∀ b off, A' = some ⟨b, off, none⟩ → vo.ownBlock ≠ some b)) (fun _ v _ _ => slLen v)
  case atStart =>
    refine ⟨i, len, c2, A2, ls, [], rfl, rfl, hi, by simp, Hrd2.out.below ((Below.refl _ _).alloc (Nat.le_refl _) _), Hown.out, by simpa using Htg.out, HB2.out.alloc HB2.out.size _, fun b off e e' => ?_⟩
    have := Hlt2.out b off e
    simp [Value.ownBlock] at e'
    omega
  case round =>
    obtain ⟨k, n, c', A', ys, out, rfl, rfl, hkn, hon, hrd, hrow, hpr, hB, hne⟩ := hrel
    have hyl := hrd.lenf sumC_len (by omega)
    obtain ⟨b, off, rfl, _⟩ := hrd.2.2 (by omega)
    by_cases h2 : 1 < n
    · have hpu := proofL_up ys k (by omega)
      have hxr := xor1_cases k
      have hrng : ∀ j, j < n → wr.rangeAt b (off + j * 32) (sumC (ys.getD j z32)) := fun j hj => hrd.range32 hj
      have hne := hne b off rfl
      have hup : ∀ w3, wr.grownBy w3 u7.ownBlock → Below w.heap.size w w3 → _ := fun w3 hg3 hb3 => RUp_any b off n c' ys w3 (hrd.kept hg3 (by omega) (fun b' off' _ e => by cases e; exact fun e' => hne e'.symm)) (by omega) (by omega)
      have HB := Lib.hid hB
      have hsz := hB.size
      rw [hyl] at hpu
      have Hrow := Lib.hid hrow
      have Hpr := Lib.hid hpr
      have Hup := Lib.hid hup
      by_cases hx : k ^^^ 1 < n
      · rw [if_pos hx] at hpu
        have hq := hrng _ hx
        have hh : (ys.getD (k ^^^ 1) z32).1.length = 32 := (ys.getD (k ^^^ 1) z32).2
        by_cases hodd : k % 2 = 0
        · rw [if_pos hodd] at hxr
          rw [hxr] at hq hx hpu hh
          have hmod : (k : Int) % 2 = 0 := by omega
          generalize ys.getD (k + 1) z32 = x at *
          have Hq := Lib.hid hq
          have Hpu := Lib.hid hpu
          clear hrng hup hB hrow hpr hpu hq hrd hxr hodd
          go_wp2_with (first | (refine wpList_load_mid rfl 32 (.tmp 42) rfl b _ rfl (sumC x) _ Hq.out und32 rfl (by rw [sumC_len]; kernel_rfl) ?_) | (refine wpList_build1 rfl 27 32 (.tmp 43) rfl _ i0 _ 32 Tryd.underlying27 hi0 hz0 hz1 (by omega) (by omega) rfl (sumV_size hh) ?_) | (at_builtin; refine wpList_append_own _ rfl (.tmp 38) (.tmp 44) 27 rfl w.heap.size 32 i0 (.agg zero32) 32 32 Tryd.underlying27 hi0 hz0 hz1 hz2 rfl (by decide) _ _ _ rfl (Hrow.out.alloc _) ⟨wr.heap.size, 0, none⟩ 1 1 (x.1.map byteV) rfl (by rw [List.length_map, hh]) (cells_new _ _ _) (oneB _) (by unfold maxLen; omega) (by omega) (by simp; omega) ?_; intro v' w3 hown' hgrow _))
          have hB3 : Below w.heap.size w w3 := (HB.out.alloc hsz _).grown hgrow (by simp; omega) (fun k' e' => ((Hrow.out.alloc (.cells (x.1.map byteV).toArray 32)).lt k' e').1)
          have Hown := Lib.hid hown'
          refine (Hup.out w3 (grownBy_of_alloc hgrow) hB3).mono ?_
          rintro e w4 ⟨A4, c4, rfl, hc4, hrd4, hb4, hnew4⟩
          have Hrd4 := Lib.hid hrd4
          have Hb4 := Lib.hid hb4
          have HB3 := Lib.hid hB3
          have hs3 := hB3.size
          clear hrd4 hb4 hown' hgrow hB3
          go_wp2_with fail
          refine ⟨⟨k / 2, (n + 1) / 2, c4, A4, upL ys, out ++ [x], by go_num, rfl, by omega, by rw [List.length_append, List.length_singleton]; omega, Hrd4.out, ?_, ?_, HB3.out.trans (Hb4.out.mono hs3), ?_⟩, by simp only [slLen]; omega⟩
          · rw [List.length_append, List.flatMap_append, List.flatMap_cons, List.flatMap_nil, List.append_nil]
            exact ownsRow_below Hown.out Hb4.out
          · rw [List.append_assoc, ← Hpu.out]; exact Hpr.out
          · intro b' off' e e'
            have := hnew4 b' off' e
            have := (Hown.out.lt b' e').2
            omega
        · rw [if_neg hodd] at hxr
          rw [hxr] at hq hx hpu hh
          obtain ⟨q, rfl⟩ : ∃ q, k = q + 1 := ⟨k - 1, by omega⟩
          rw [Nat.add_sub_cancel] at hq hx hpu hh
          have hmod : ((q : Int) + 1) % 2 = 1 := by omega
          generalize ys.getD q z32 = x at *
          have Hq := Lib.hid hq
          have Hpu := Lib.hid hpu
          clear hrng hup hB hrow hpr hpu hq hrd hxr hodd
          go_wp2_with (first | (refine wpList_load_mid rfl 32 (.tmp 29) rfl b _ rfl (sumC x) _ Hq.out und32 rfl (by rw [sumC_len]; kernel_rfl) ?_) | (refine wpList_build1 rfl 27 32 (.tmp 30) rfl _ i0 _ 32 Tryd.underlying27 hi0 hz0 hz1 (by omega) (by omega) rfl (sumV_size hh) ?_) | (at_builtin; refine wpList_append_own _ rfl (.tmp 25) (.tmp 31) 27 rfl w.heap.size 32 i0 (.agg zero32) 32 32 Tryd.underlying27 hi0 hz0 hz1 hz2 rfl (by decide) _ _ _ rfl (Hrow.out.alloc _) ⟨wr.heap.size, 0, none⟩ 1 1 (x.1.map byteV) rfl (by rw [List.length_map, hh]) (cells_new _ _ _) (oneB _) (by unfold maxLen; omega) (by omega) (by simp; omega) ?_; intro v' w3 hown' hgrow _))
          have hB3 : Below w.heap.size w w3 := (HB.out.alloc hsz _).grown hgrow (by simp; omega) (fun k' e' => ((Hrow.out.alloc (.cells (x.1.map byteV).toArray 32)).lt k' e').1)
          have Hown := Lib.hid hown'
          refine (Hup.out w3 (grownBy_of_alloc hgrow) hB3).mono ?_
          rintro e w4 ⟨A4, c4, rfl, hc4, hrd4, hb4, hnew4⟩
          have Hrd4 := Lib.hid hrd4
          have Hb4 := Lib.hid hb4
          have HB3 := Lib.hid hB3
          have hs3 := hB3.size
          clear hrd4 hb4 hown' hgrow hB3
          go_wp2_with fail
          refine ⟨⟨(q + 1) / 2, (n + 1) / 2, c4, A4, upL ys, out ++ [x], by go_num, rfl, by omega, by rw [List.length_append, List.length_singleton]; omega, Hrd4.out, ?_, ?_, HB3.out.trans (Hb4.out.mono hs3), ?_⟩, by simp only [slLen]; omega⟩
          · rw [List.length_append, List.flatMap_append, List.flatMap_cons, List.flatMap_nil, List.append_nil]
            exact ownsRow_below Hown.out Hb4.out
          · rw [List.append_assoc, ← Hpu.out]; exact Hpr.out
          · intro b' off' e e'
            have := hnew4 b' off' e
            have := (Hown.out.lt b' e').2
            omega
      · rw [if_neg hx, List.nil_append] at hpu
        have hodd : k % 2 = 0 := by split at hxr <;> omega
        rw [if_pos hodd] at hxr
        rw [hxr] at hx
        have hmod : (k : Int) % 2 = 0 := by omega
        have Hpu := Lib.hid hpu
        clear hrng hup hB hrow hpr hpu hrd hxr hodd
        go_wp2_with fail
        refine (Hup.out wr ⟨rfl, rfl, rfl, Nat.le_refl _, fun _ _ _ => rfl⟩ HB.out).mono ?_
        rintro e w4 ⟨A4, c4, rfl, hc4, hrd4, hb4, hnew4⟩
        have Hrd4 := Lib.hid hrd4
        have Hb4 := Lib.hid hb4
        clear hrd4 hb4
        go_wp2_with fail
        refine ⟨⟨k / 2, (n + 1) / 2, c4, A4, upL ys, out, by go_num, rfl, by omega, by omega, Hrd4.out, ownsRow_below Hrow.out Hb4.out, by rw [← Hpu.out]; exact Hpr.out, HB.out.trans (Hb4.out.mono hsz), ?_⟩, by simp only [slLen]; omega⟩
        intro b' off' e e'
        have := hnew4 b' off' e
        have := (Hrow.out.lt b' e').2
        omega
    · obtain rfl : n = 1 := by omega
      rw [proofL_one ys k (by omega), List.append_nil] at hpr
      obtain ⟨Ao, co, rfl⟩ := ownsRow_slice hrow
      have hcc := ownsRow_cap hrow
      have Hrow := Lib.hid hrow
      have Hpr := Lib.hid hpr
      have HB := Lib.hid hB
      clear hrow hpr hB hrd
      go_wp2_with fail
      go_ret2
      exact ⟨Ao, _, co, rfl, hcc, by rw [← Hpr.out]; exact Rd.of_own Hrow.out, HB.out, fun b off e => (Hrow.out.lt b (by rw [e]; rfl)).1⟩
end Go.Proofs.YtgblkaoioeceiaaDoor
