/- Package hash: Proof. -/
import Derived.Test.YtgblkaoioeceiaaDoorRoot
namespace Go.Proofs.YtgblkaoioeceiaaDoor
open Go.RowKit

def proofF : Nat → List Sum32 → Nat → List Sum32
  | 0, _, _ => []
  | n + 1, xs, i => if xs.length ≤ 1 then [] else (if i ^^^ 1 < xs.length then [xs.getD (i ^^^ 1) z32] else []) ++ proofF n (upL xs) (i / 2)
def proofL (xs : List Sum32) (i : Nat) : List Sum32 := proofF xs.length xs i
theorem proofF_one : ∀ (n : Nat) (xs : List Sum32) (i : Nat), xs.length ≤ 1 → proofF n xs i = []
  | 0, _, _, _ => rfl
  | n + 1, xs, i, h => by rw [proofF, if_pos h]
theorem proofF_fuel : ∀ (n m : Nat) (xs : List Sum32) (i : Nat), xs.length ≤ n → xs.length ≤ m → proofF n xs i = proofF m xs i
  | 0, m, xs, i, h, _ => by rw [proofF_one m xs i (by omega)]; rfl
  | n + 1, 0, xs, i, _, h => by rw [proofF_one (n + 1) xs i (by omega)]; rfl
  | n + 1, m + 1, xs, i, h, h' => by
    by_cases h1 : xs.length ≤ 1
    · rw [proofF_one _ _ _ h1, proofF_one _ _ _ h1]
    · rw [proofF, proofF, if_neg h1, if_neg h1]
      rw [proofF_fuel n m _ _ (by rw [upL_length]; omega) (by rw [upL_length]; omega)]
theorem proofL_one (xs : List Sum32) (i : Nat) (h : xs.length ≤ 1) : proofL xs i = [] := proofF_one _ _ _ h
theorem proofL_up (xs : List Sum32) (i : Nat) (h : 1 < xs.length) : proofL xs i = (if i ^^^ 1 < xs.length then [xs.getD (i ^^^ 1) z32] else []) ++ proofL (upL xs) (i / 2) := by
  unfold proofL
  rw [show xs.length = (xs.length - 1) + 1 from by omega, proofF, if_neg (by omega)]
  rw [show xs.length - 1 + 1 = xs.length from by omega, proofF_fuel (xs.length - 1) _ _ _ (by rw [upL_length]; omega) (Nat.le_refl _)]
theorem xor1_cases (i : Nat) : i ^^^ 1 = if i % 2 = 0 then i + 1 else i - 1 := by
  have h1 : (i ^^^ 1) / 2 = i / 2 := by
    have := Nat.xor_div_two (a := i) (b := 1)
    simpa using this
  have h2 := Nat.xor_mod_two_eq_one (a := i) (b := 1)
  have h3 : (i ^^^ 1) = 2 * ((i ^^^ 1) / 2) + (i ^^^ 1) % 2 := by omega
  split <;> omega
theorem i64_xor1 (k : Nat) (h : k < 9223372036854775807) : bits .xor .i64 (k : Int) 1 = ((k ^^^ 1 : Nat) : Int) := by
  have hc := xor1_cases k
  have hx : k ^^^ 1 < 9223372036854775808 := by split at hc <;> omega
  show IntKind.i64.wrap ((BitVec.ofInt 64 (k : Int) ^^^ BitVec.ofInt 64 ((1 : Nat) : Int)).toNat : Int) = _
  rw [BitVec.toNat_xor, ofInt_u64 k (by omega), ofInt_u64 1 (by omega), IntKind.wrap_i64]
  omega

theorem Rd.kept {w w' : World} {sz n : Nat} {A : Option Addr} {xs : List Value} {row : Option Nat} (h : Rd w sz A n xs) (hg : w.grownBy w' row) (hsz : 0 < sz) (hS : ∀ b off, 0 < n → A = some ⟨b, off, none⟩ → some b ≠ row) : Rd w' sz A n xs :=
  h.keptIn (S := fun k => k < w.heap.size ∧ some k ≠ row) ⟨hg.os, hg.tape, hg.output, hg.size, fun k hk => hg.block k hk.1 hk.2⟩ (fun b off hn e => ⟨h.lt hsz hn e, hS b off hn e⟩)
theorem grown_of_below {w w' : World} (hb : Below w.heap.size w w') : w.grownBy w' none := ⟨hb.os, hb.tape, hb.output, hb.size, fun k hk _ => hb.block k hk⟩
theorem grownBy_of_alloc {w w' : World} {o : Obj} {row : Option Nat} (h : (w.alloc o).grownBy w' row) : w.grownBy w' row :=
  ⟨h.os, h.tape, h.output, by have := h.size; simp at this; omega, fun k hk hne => (h.block k (by simp; omega) hne).trans (Below.heap_alloc w o k hk)⟩
theorem ownsRow_below {w w' : World} {base : Nat} {e : TypeId} {sz n : Nat} {v : Value} {xs : List Value} (h : w.ownsRow base e sz v n xs) (hb : Below w.heap.size w w') : w'.ownsRow base e sz v n xs :=
  h.kept (grown_of_below hb) (by cases v.ownBlock <;> simp)

set_option maxRecDepth 100000 in
set_option maxHeartbeats 1000000 in
theorem Proof_bad (A : Option Addr) (len cap : Nat) (i : Int) (hi : i < 0 ∨ (len : Int) ≤ i) (w : World) (_hl : len ≤ 9223372036854775807) :
    Calls Tryd.prog 12 #[.slice A len cap, .int .i64 i] w fun e w' => e = .returned (.tuple #[.slice none 0 0, .int .i64 1]) ∧ w' = w := by
  go_enter Tryd.func12, Tryd.ntmps12
  by_cases h0 : i < 0
  · go_wp2
    go_ret2
    exact ⟨rfl, rfl⟩
  · have h1 : (len : Int) ≤ i := by omega
    clear hi
    go_wp2
    go_ret2
    exact ⟨rfl, rfl⟩

set_option maxRecDepth 100000 in
set_option maxHeartbeats 1000000 in
theorem Proof_any (A : Option Addr) (len cap i : Nat) (cs : List (List UInt8)) (w : World) (hg : Globs w) (hr : Lst w A len cs) (hlen : len ≤ 1000000) (hcs : ∀ c ∈ cs, c.length ≤ 8796093022000) (hi : i < len) :
    Calls Tryd.prog 12 #[.slice A len cap, .int .i64 (i : Int)] w fun e w' => ∃ A' n' c', e = .returned (.tuple #[.slice A' n' c', .int .i64 0]) ∧ n' ≤ c' ∧ Rd w' 32 A' n' ((proofL (cs.map leafS) i).flatMap sumC) ∧ Below w.heap.size w w' := by
  obtain ⟨i0, hi0, hz0, hz1, hz2⟩ := info_parts info32
  have hl := hr.len
  have hlv := Leaves_any A len cap cs w hg hr hlen hcs
  have hll : (cs.map leafS).length = len := by rw [List.length_map, hl]
  obtain ⟨tgt, htgt⟩ : ∃ t, proofL (cs.map leafS) i = t := ⟨_, rfl⟩
  rw [htgt]
  generalize cs.map leafS = ls at *
  have Htg := Lib.hid htgt
  have Hlv := Lib.hid hlv
  have Hg := Lib.hid hg
  clear hlv hr hcs hl hg htgt
  go_enter Tryd.func12, Tryd.ntmps12
  go_wp2_with fail
  refine Hlv.out.mono ?_
  rintro e w2 ⟨A2, c2, rfl, hc2, hrd2, hb2, hnew2⟩
  have hown := World.ownsRow_nil w2 w.heap.size 32 32
  have HB2 := Lib.hid hb2
  clear hb2
  go_wp2_with fail
  go_loopw [1, 6, 7, 8] (fun vi vo vl _ wr => ∃ (k n c' : Nat) (A' : Option Addr) (ys out : List Sum32), vi = .int .i64 (k : Int) ∧ vl = .slice A' n c' ∧ n ≤ c' ∧ k < n ∧ out.length + n ≤ len ∧ Rd wr 32 A' n (ys.flatMap sumC) ∧ wr.ownsRow w.heap.size 32 32 vo out.length (out.flatMap sumC) ∧ out ++ proofL ys k = tgt ∧ Below w.heap.size w wr ∧ (∀ b off, A' = some ⟨b, off, none⟩ → vo.ownBlock ≠ some b)) (fun _ _ v _ _ => slLen v)
  case atStart => exact ⟨i, len, c2, A2, ls, [], rfl, rfl, hc2, hi, by simp, hrd2, hown, by simpa using Htg.out, HB2.out, fun _ _ _ => by simp [Value.ownBlock]⟩
  case round =>
    obtain ⟨k, n, c', A', ys, out, rfl, rfl, hnc, hkn, hon, hrd, hrow, hpr, hB, hne⟩ := hrel
    clear hrd2
    have hyl := hrd.lenf sumC_len (by omega)
    obtain ⟨b, off, rfl, _⟩ := hrd.2.2 (by omega)
    by_cases h2 : 1 < n
    · have hpu := proofL_up ys k (by omega)
      have hxor := i64_xor1 k (by omega)
      have hrng : ∀ j, j < n → wr.rangeAt b (off + j * 32) (sumC (ys.getD j z32)) := fun j hj => hrd.range32 hj
      have hne := hne b off rfl
      have hup : ∀ w3, wr.grownBy w3 u6.ownBlock → Below w.heap.size w w3 → _ := fun w3 hg3 hb3 => Up_any b off n c' ys w3 (Hg.out.below hb3) (hrd.kept hg3 (by omega) (fun b' off' _ e => by cases e; exact fun e' => hne e'.symm)) (by omega) (by omega) hnc
      have HB := Lib.hid hB
      have hsz := hB.size
      rw [hyl] at hpu
      have Hrow := Lib.hid hrow
      have Hpr := Lib.hid hpr
      have Hup := Lib.hid hup
      have Hrng := Lib.hid hrng
      by_cases hx : k ^^^ 1 < n
      · rw [if_pos hx] at hpu
        generalize k ^^^ 1 = q at *
        have Hpu := Lib.hid hpu
        have hq := hrng q hx
        have hh : (ys.getD q z32).1.length = 32 := (ys.getD q z32).2
        have Hq := Lib.hid hq
        clear hrng hup hB hrow hpr hpu hq hrd
        generalize ys.getD q z32 = x at *
        go_wp2_with (first | (refine wpList_load_mid rfl 32 (.tmp 33) rfl b _ rfl (sumC x) _ Hq.out und32 rfl (by rw [sumC_len]; kernel_rfl) ?_) | (refine wpList_build1 rfl 27 32 (.tmp 34) rfl _ i0 _ 32 Tryd.underlying27 hi0 hz0 hz1 (by omega) (by omega) rfl (sumV_size hh) ?_) | (at_builtin; refine wpList_append_own _ rfl (.tmp 30) (.tmp 35) 27 rfl w.heap.size 32 i0 (.agg zero32) 32 32 Tryd.underlying27 hi0 hz0 hz1 hz2 rfl (by decide) _ _ _ rfl (Hrow.out.alloc _) ⟨wr.heap.size, 0, none⟩ 1 1 (x.1.map byteV) rfl (by rw [List.length_map, hh]) (cells_new _ _ _) (oneB _) (by unfold maxLen; omega) (by omega) (by simp; omega) ?_; intro v' w3 hown' hgrow _))
        have hB3 : Below w.heap.size w w3 := (HB.out.alloc hsz _).grown hgrow (by simp; omega) (fun k' e' => ((Hrow.out.alloc (.cells (x.1.map byteV).toArray 32)).lt k' e').1)
        have Hown := Lib.hid hown'
        refine (Hup.out w3 (grownBy_of_alloc hgrow) hB3).mono ?_
        rintro e w4 ⟨A4, c4, rfl, hc4, hrd4, hb4, hnew4⟩
        have Hrd4 := Lib.hid hrd4
        have Hb4 := Lib.hid hb4
        have HB3 := Lib.hid hB3
        have hs3 := hB3.size
        clear hrd4 hb4 hown' hgrow hB3
        go_wp2_with fail
        refine ⟨⟨k / 2, (n + 1) / 2, c4, A4, upL ys, out ++ [x], by go_num, rfl, hc4, by omega, by rw [List.length_append, List.length_singleton]; omega, Hrd4.out, ?_, ?_, HB3.out.trans (Hb4.out.mono hs3), ?_⟩, by simp only [slLen]; omega⟩
        · rw [List.length_append, List.flatMap_append, List.flatMap_cons, List.flatMap_nil, List.append_nil]
          exact ownsRow_below Hown.out Hb4.out
        · rw [List.append_assoc, ← Hpu.out]; exact Hpr.out
        · intro b' off' e e'
          have := hnew4 b' off' e
          have := (Hown.out.lt b' e').2
          omega
      · rw [if_neg hx, List.nil_append] at hpu
        generalize k ^^^ 1 = q at *
        have Hpu := Lib.hid hpu
        clear hrng hup hB hrow hpr hpu hrd
        go_wp2_with fail
        refine (Hup.out wr ⟨rfl, rfl, rfl, Nat.le_refl _, fun _ _ _ => rfl⟩ HB.out).mono ?_
        rintro e w4 ⟨A4, c4, rfl, hc4, hrd4, hb4, hnew4⟩
        have Hrd4 := Lib.hid hrd4
        have Hb4 := Lib.hid hb4
        clear hrd4 hb4
        go_wp2_with fail
        refine ⟨⟨k / 2, (n + 1) / 2, c4, A4, upL ys, out, by go_num, rfl, hc4, by omega, by omega, Hrd4.out, ownsRow_below Hrow.out Hb4.out, by rw [← Hpu.out]; exact Hpr.out, HB.out.trans (Hb4.out.mono hsz), ?_⟩, by simp only [slLen]; omega⟩
        intro b' off' e e'
        have := hnew4 b' off' e
        have := (Hrow.out.lt b' e').2
        omega
    · obtain rfl : n = 1 := by omega
      rw [proofL_one ys k (by omega), List.append_nil] at hpr
      obtain ⟨Ao, co, rfl⟩ := ownsRow_slice hrow
      have hcc := ownsRow_cap hrow
      have Hrow := Lib.hid hrow
      have Hpr := Lib.hid hpr
      have HB := Lib.hid hB
      clear hrow hpr hB hrd
      go_wp2_with fail
      go_ret2
      exact ⟨Ao, _, co, rfl, hcc, by rw [← Hpr.out]; exact Rd.of_own Hrow.out, HB.out⟩
end Go.Proofs.YtgblkaoioeceiaaDoor
