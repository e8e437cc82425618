/- bytes.Clone; package net: the reader's list. -/
import Derived.Test.YteofgkdpknaapaaN4
import Derived.Laws.Cover3
namespace Go.Proofs.Yteofgkdpknaapaa
open Go.RowKit Go.Sort

theorem run_nil_none (n c : Nat) (w : World) : (binOp BinOp.eql 26 (.slice none n c) (.slice none 0 0)).run Try.prog w = .ok (.bool true) w := by
  simp [binOp, go_sem, run_equal_slice_nil w 26 5 _ n c Try.underlying26]
theorem run_nil_some (a : Addr) (n c : Nat) (w : World) : (binOp BinOp.eql 26 (.slice (some a) n c) (.slice none 0 0)).run Try.prog w = .ok (.bool false) w := by
  simp [binOp, go_sem, run_equal_slice_nil w 26 5 _ n c Try.underlying26]
/-- What Clone answers. -/
def CloneR (bs : List UInt8) (w : World) (e : Ending) (w' : World) : Prop :=
  (∃ (A : Option Addr) (c : Nat), e = .returned (.slice A bs.length c) ∧ bs.length ≤ c ∧ TRd w' 5 1 A bs.length (bs.map byteV)) ∧ Below w.heap.size w w'
set_option maxRecDepth 100000 in
set_option maxHeartbeats 1000000 in
theorem clone_any (A : Option Addr) (n c : Nat) (bs : List UInt8) (w : World) (hr : Rd w 1 A n (bs.map byteV)) (hn : n ≤ 8796093021000) :
    Calls Try.prog 64 #[.slice A n c] w (CloneR bs w) := by
  obtain ⟨i0, hi0, hz0, hz1, hz2⟩ := info_parts info5
  have hl := hr.len1
  cases A with
  | none =>
    have h0 : n = 0 := by
      rcases Nat.eq_zero_or_pos n with h | h
      · exact h
      · obtain ⟨b, off, e, _⟩ := hr.2.2 h
        simp at e
    subst h0
    have hb : bs = [] := List.eq_nil_of_length_eq_zero (by omega)
    subst hb
    clear hr
    have hq := run_nil_none 0 c
    go_enter Try.func64, Try.ntmps64
    go_wp2_with fail
    exact bodyPost_ret (results_tmp rfl _ _ _) rfl ⟨⟨none, 0, rfl, by simp, ⟨Rd.nil _ _ _, fun h => absurd h (by simp)⟩⟩, Below.refl _ _⟩
  | some a =>
    have Hr := Lib.hid hr
    clear hr
    have hq := run_nil_some a n c
    have hlt : w.heap.size < (w.alloc (.cells #[] 5)).heap.size := (Blk.new w 5 #[]).lt
    have hba := Lib.hid ((Below.refl w.heap.size w).alloc (Nat.le_refl _) (.cells #[] 5))
    go_enter Try.func64, Try.ntmps64
    go_wp2_with (at_builtin; refine wpList_appz rfl (.tmp 5) (.tmp 6) 26 rfl 5 i0 (.int .u8 0) 1 1 Try.underlying26 hi0 hz0 hz1 hz2 rfl (by omega) w.heap.size (Nat.le_of_lt hlt) (.slice (some ⟨w.heap.size, 0, none⟩) 0 0) 0 [] rfl (.inl ⟨rfl, rfl, _, rfl, Nat.le_refl _, hlt⟩) (some a) n c (bs.map byteV) rfl (Hr.out.alloc _) (oneB _) (by unfold maxLen; omega) (by omega) ?_; intro v6 w6 happ6 hg6)
    obtain ⟨A', c', rfl, hc', _⟩ := happ6.rd
    rw [Nat.zero_add, List.nil_append] at happ6
    rw [Nat.zero_add] at hc'
    rw [← hl] at happ6 hc'
    rw [Nat.zero_add, ← hl]
    refine bodyPost_ret (results_tmp rfl _ _ _) rfl ⟨⟨A', c', rfl, hc', happ6.trd⟩, ?_⟩
    exact hba.out.grown hg6 (Nat.le_of_lt hlt) (fun k ek => by simp only [Value.ownBlock, Option.some.injEq] at ek; omega)
theorem or_two (a b : Nat) (ha : a < 256) (hb : b < 256) : bits .or .i64 ((a : Int) * 256) (b : Int) = ((256 * a + b : Nat) : Int) := by
  have e : ((a : Int) * 256) = ((a * 256 : Nat) : Int) := (Int.natCast_mul a 256).symm
  have hj : a * 256 ||| b = a * 256 + b := nat_join 8 _ _ (by omega) (by omega)
  rw [e]
  show IntKind.i64.wrap ((BitVec.ofInt 64 ((a * 256 : Nat) : Int) ||| BitVec.ofInt 64 (b : Int)).toNat : Int) = _
  rw [BitVec.toNat_or, ofInt_u64 _ (by omega), ofInt_u64 _ (by omega), hj, IntKind.wrap_i64]
  omega
/-- What list answers. -/
def ListR (rb most : Nat) (bs : List UInt8) (w : World) (e : Ending) (w' : World) : Prop :=
  (match lst most bs with
    | some (x, t) => (∃ (A : Option Addr) (c : Nat), e = .returned (.slice A x.length c) ∧ x.length ≤ c ∧ TRd w' 5 1 A x.length (x.map byteV)) ∧ RdS w' rb t
    | none => e = .panicked dmg) ∧ Only rb w w'
set_option maxRecDepth 100000 in
set_option maxHeartbeats 1000000 in
theorem list_any (rb most : Nat) (bs : List UInt8) (w : World) (hS : RdS w rb bs) (_hm : most ≤ 100000) :
    Calls Try.prog 61 #[.pointer (some ⟨rb, 0, none⟩), .int .i64 (most : Int)] w (ListR rb most bs w) := by
  have h1 := one_any rb bs w hS
  have hout : ∀ w', Only rb w w' → lst most bs = none → ListR rb most bs w (.panicked dmg) w' := fun w' ho h => by
    unfold ListR
    rw [h]
    exact ⟨rfl, ho⟩
  have Hout := Lib.hid hout
  clear hout hS
  go_enter Try.func61, Try.ntmps61
  go_wp2_with fail
  refine h1.mono ?_
  rintro e w1 ⟨hm1, ho1⟩
  rcases bs with _ | ⟨a, bs⟩
  · cases hm1
    first | exact ⟨rfl, Hout.out _ ho1 rfl⟩ | (go_wp2_with fail; exact ⟨rfl, Hout.out _ ho1 rfl⟩)
  simp only [one] at hm1
  obtain ⟨rfl, hS1⟩ := hm1
  have h2 := one_any rb bs w1 hS1
  have HO1 := Lib.hid ho1
  clear hS1 ho1 h1
  have hal := a.toNat_lt
  go_wp2_with fail
  refine h2.mono ?_
  rintro e w2 ⟨hm2, ho2⟩
  replace ho2 := HO1.out.trans ho2
  rcases bs with _ | ⟨b, bs⟩
  · cases hm2
    exact ⟨rfl, Hout.out _ ho2 rfl⟩
  simp only [one] at hm2
  obtain ⟨rfl, hS2⟩ := hm2
  have HO2 := Lib.hid ho2
  have hbl := b.toNat_lt
  have hor := or_two a.toNat b.toNat (by omega) (by omega)
  obtain ⟨m, hmn⟩ : ∃ m, m = 256 * a.toNat + b.toNat := ⟨_, rfl⟩
  rw [← hmn] at hor
  have hmle : m ≤ 100000 := by omega
  have Hmn := Lib.hid hmn
  have HS2 := Lib.hid hS2
  clear HO1 ho2 h2 hmn hS2
  by_cases hgt : most < m
  · have d0 : decide ((most : Int) < (m : Int)) = true := decide_eq_true (by omega)
    have d1 : (most : Int) < (m : Int) := by omega
    have hn : lst most (a :: b :: bs) = none := by simp only [lst]; rw [← Hmn.out, if_pos hgt]
    have HN := Lib.hid (Hout.out w2 HO2.out hn)
    clear hn Hout
    go_wp2_with fail
    exact ⟨rfl, HN.out⟩
  · have d0 : decide ((most : Int) < (m : Int)) = false := decide_eq_false (by omega)
    have d1 : ¬ (most : Int) < (m : Int) := by omega
    have h3 := take_any rb m bs w2 HS2.out (by omega)
    go_wp2_with fail
    refine h3.mono ?_
    rintro e w3 ⟨⟨hle, ⟨A, c, rfl, hc, hr3, _⟩, hS3⟩ | ⟨hlt, rfl⟩, ho3⟩
    · have h4 := clone_any A m c (bs.take m) w3 hr3 (by omega)
      have hlen : (bs.take m).length = m := by rw [List.length_take]; omega
      replace ho3 := HO2.out.trans ho3
      have HO3 := Lib.hid ho3
      have HS3 := Lib.hid hS3
      have Hle := Lib.hid hle
      clear ho3 hS3 hr3 HO2 HS2 h3 hle
      go_wp2_with fail
      refine h4.mono ?_
      rintro e w4 ⟨⟨A', c', rfl, hc', hr4⟩, hb4⟩
      have hL : ListR rb most (a :: b :: bs) w (.returned (.slice A' (bs.take m).length c')) w4 := by
        unfold ListR
        simp only [lst]
        rw [← Hmn.out, if_neg hgt]
        unfold tak
        rw [if_pos Hle.out]
        exact ⟨⟨⟨A', c', rfl, hc', hr4⟩, HS3.out.only_below hb4⟩, HO3.out.trans (Only.of_below hb4)⟩
      rw [hlen] at hL
      have HL := Lib.hid hL
      clear h4 hr4 hb4 Hout hL
      go_wp2_with fail
      refine bodyPost_ret (results_tmp rfl _ _ _) rfl ?_
      exact HL.out
    · replace ho3 := HO2.out.trans ho3
      have hn : lst most (a :: b :: bs) = none := by
        simp only [lst]
        rw [← Hmn.out, if_neg hgt]
        unfold tak
        rw [if_neg (by omega)]
      exact ⟨rfl, Hout.out w3 ho3 hn⟩
end Go.Proofs.Yteofgkdpknaapaa
