/- Package slices at lists of numbers: Grow, Concat. -/
import Derived.Test.YtgelchbbknckcaaG7
import Derived.Lib.AppendZeros
namespace Go.Proofs.Ytgelchbbknckcaa
open Go.RowKit Go.Sort

theorem info3 : (Try.prog.info? 3).map (fun i => (i.zero, i.size, i.bytes)) = some (some (.int .i64 0), 1, 8) := by kernel_rfl
theorem oneI (x : List Int) : ∀ u ∈ x.map intV, u.oneCell' = true := fun u hu => by obtain ⟨i, _, rfl⟩ := List.mem_map.1 hu; rfl
theorem size30' : Try.prog.cellsOf 3 = 1 := by kernel_rfl
theorem elem30 : Try.prog.elem 30 = 3 := by kernel_rfl
theorem run_ints_head (a : Option Addr) (n c m : Nat) (hm : m ≤ c) (w : World) : (Instr.slice 30 (.slice a n c) none (some (.int .i64 (m : Int))) none).run Try.prog w = .ok (.slice a m c) w := by
  obtain ⟨iE, hi'⟩ : ∃ i, Try.prog.info? 3 = some i := by
    have := size30'
    unfold Program.cellsOf at this
    cases h : Try.prog.info? 3 with
    | none => simp [h] at this
    | some i => exact ⟨i, rfl⟩
  rw [run_slice_h (P := Try.prog) w 30 a n c Try.underlying30 .i64 (m : Int) (by omega) (by omega), elem30, run_sizeOf w hi', size30']
  simp only [Result.andThen_ok, sliced, Int.toNat_natCast, Nat.zero_mul, Nat.sub_zero]
  have h0 : ∀ x : Addr, x.add 0 = x := fun x => by obtain ⟨b, o, s⟩ := x; unfold Addr.add; split <;> simp_all
  have : (if c = 0 then a else a.map fun x => x.add 0) = a := by
    split
    · rfl
    · cases a with
      | none => rfl
      | some x => simp [h0]
  rw [this]
theorem run_nil_head (w : World) : (Instr.slice 30 (.slice none 0 0) none (some (.int .i64 0)) none).run Try.prog w = .ok (.slice none 0 0) w := run_ints_head none 0 0 0 (Nat.le_refl _) w
theorem run_head0 (a : Option Addr) (n c : Nat) (w : World) : (Instr.slice 30 (.slice a n c) none (some (.int .i64 0)) none).run Try.prog w = .ok (.slice a 0 c) w := run_ints_head a n c 0 (Nat.zero_le _) w

/-- A slice of slices of numbers. -/
def LstI (w : World) (A : Option Addr) (n : Nat) (ls : List (List Int)) : Prop :=
  ∃ vs : List Sl, Rd w 1 A n (vs.map slV) ∧ ls.length = n ∧ ∀ (k : Nat) (v : Sl) (l : List Int), vs[k]? = some v → ls[k]? = some l → Rd w 1 v.a v.n (l.map intV)
theorem LstI.len {w : World} {A : Option Addr} {n : Nat} {ls : List (List Int)} (h : LstI w A n ls) : ls.length = n := by obtain ⟨_, _, h, _⟩ := h; exact h
theorem LstI.below {w w' : World} {A : Option Addr} {n : Nat} {ls : List (List Int)} (h : LstI w A n ls) (hb : Below w.heap.size w w') : LstI w' A n ls := by
  obtain ⟨vs, h1, h2, h3⟩ := h
  exact ⟨vs, h1.below hb, h2, fun k v l hv hl => (h3 k v l hv hl).below hb⟩
theorem LstI.at_ {w : World} {A : Option Addr} {n : Nat} {ls : List (List Int)} (h : LstI w A n ls) {k : Nat} (hk : k < n) :
    ∃ (b off : Nat) (v : Sl) (l : List Int), A = some ⟨b, off, none⟩ ∧ ls[k]? = some l ∧ w.cell? ⟨b, off + k, none⟩ = some (.slice v.a v.n v.c) ∧ Rd w 1 v.a v.n (l.map intV) := by
  obtain ⟨vs, h1, h2, h3⟩ := h
  obtain ⟨b, off, v, e, hv, hc⟩ := h1.at_ hk
  have hl : ls[k]? = some ls[k] := List.getElem?_eq_getElem (by omega)
  exact ⟨b, off, v, _, e, hl, hc, h3 k v _ hv hl⟩
set_option maxRecDepth 100000 in
set_option maxHeartbeats 1000000 in
/-- slices.Grow of the nil slice. -/
theorem Grow_any (n : Nat) (hn : n ≤ 10000000) (w : World) :
    Calls Try.prog 46 #[.slice none 0 0, .int .i64 (n : Int)] w fun e w' => ∃ v, e = .returned v ∧ App w' w.heap.size 3 v 0 [] ∧ Below w.heap.size w w' := by
  obtain ⟨i0, hi0, hz0, hz1, hz2⟩ := info_parts info3
  by_cases h0 : n = 0
  · subst h0
    go_enter Try.func46, Try.ntmps46
    go_wp2_with fail
    go_ret
    exact ⟨_, rfl, .inr (World.ownsRow_nil _ _ _ _), Below.refl _ _⟩
  · have happ := fun ty => Lib.run_append_nil_zeros (P := Try.prog) w 30 3 ty 3 i0 (.int .i64 0) .i64 .i64 Try.underlying30 (by kernel_rfl) hi0 hz0 n (by omega) (by omega) (by omega) (by rw [hz2]; omega)
    have hcapge : n ≤ grownCap w n 0 3 := grownCap_ge w _ 0 3
    have hcaple : grownCap w n 0 3 ≤ maxLen := grownCap_le_maxLen w _ 0 3 (by unfold maxLen; omega)
    generalize grownCap w n 0 3 = cp at happ hcapge hcaple
    generalize hZ : (Builtin.zeroCells (Value.int .i64 0).cells n ++ Builtin.zeroCells (Value.int .i64 0).cells (cp - n)) = Z at happ
    have hZs : Z.size = cp := by rw [← hZ]; simp [size_zeroCells, Value.cells]; omega
    have Happ := Lib.hid happ
    have Hn := Lib.hid h0
    have hpos : 0 < n := by omega
    have hh1 := run_nil_head
    have hh2 := run_head0 (some ⟨w.heap.size, 0, none⟩) n cp
    clear hZ happ h0
    go_enter Try.func46, Try.ntmps46
    go_wp2_with (at_builtin; refine Lib.wpList_append_run _ rfl (.tmp 20) (.tmp 21) 30 3 rfl _ _ rfl rfl _ _ (Happ.out _) ?_)
    go_ret
    refine ⟨_, rfl, .inr ⟨by simp, .inr ⟨w.heap.size, cp, Z, rfl, Nat.le_refl _, Blk.new w.drew _ _, Nat.zero_le _, hcaple, by rw [hZs]; simp, by simp⟩⟩, ((Below.refl _ w).drew).alloc (Nat.le_refl _) _⟩

def sumToI (h : List (List Int)) (k : Nat) : Nat := (h.take k).flatten.length
theorem flatI_succ {h : List (List Int)} {k : Nat} {x : List Int} (hx : h[k]? = some x) : (h.take (k + 1)).flatten = (h.take k).flatten ++ x := by
  rw [List.take_add_one, hx]; simp
theorem flatI_le (h : List (List Int)) (k : Nat) : (h.take k).flatten.length ≤ h.flatten.length := by
  conv => rhs; rw [← List.take_append_drop k h]
  rw [List.flatten_append, List.length_append]
  omega

set_option maxRecDepth 100000 in
set_option maxHeartbeats 1000000 in
/-- slices.Concat of lists of bytes. -/
theorem Concat_any (A : Option Addr) (n c : Nat) (h : List (List Int)) (w : World) (hL : LstI w A n h) (hn : n ≤ 1000000) (hs : h.flatten.length ≤ 10000000) :
    Calls Try.prog 40 #[.slice A n c] w fun e w' => ∃ A' c', e = .returned (.slice A' h.flatten.length c') ∧ TRd w' 3 1 A' h.flatten.length (h.flatten.map intV) ∧ h.flatten.length ≤ c' ∧ Below w.heap.size w w' := by
  obtain ⟨i0, hi0, hz0, hz1, hz2⟩ := info_parts info3
  have hl := hL.len
  have HL := Lib.hid hL
  have hfl := flatI_le h
  have Hfl := Lib.hid hfl
  clear hL hfl
  go_enter Try.func40, Try.ntmps40
  go_wp2_with fail
  go_loopw [3, 5, 11] (fun v3 _ v11 wr => ∃ k : Nat, k ≤ n ∧ v11 = .int .i64 (k : Int) ∧ v3 = .int .i64 (((h.take k).flatten.length : Nat) : Int) ∧ wr = w) (fun _ _ v11 _ => n - (intOf v11).toNat)
  case atStart => exact ⟨0, by omega, rfl, rfl, rfl⟩
  case round =>
    obtain ⟨k, hk, rfl, rfl, hwr⟩ := hrel
    subst hwr
    by_cases hlt : k < n
    · obtain ⟨b, off, v, x, rfl, hx, cx, hrx⟩ := HL.out.at_ hlt
      have hvn := hrx.len1
      have hf := flatI_succ hx
      have h1 := Hfl.out (k + 1)
      have hfl2 : (h.take (k + 1)).flatten.length = (h.take k).flatten.length + v.n := by rw [hf, List.length_append, hvn]
      generalize hS : (h.take k).flatten.length = S at *
      have Hfl2 := Lib.hid hfl2
      have hb : S + v.n ≤ 10000000 := by omega
      clear hfl2 hf hx hrx hS hvn h1
      go_wp2_with fail
      exact ⟨⟨k + 1, by omega, by go_num, by rw [Hfl2.out]; go_num, trivial⟩, by simp [intOf]; omega⟩
    · obtain rfl : k = n := by omega
      have hall : h.take k = h := List.take_of_length_le (by omega)
      rw [hall]
      obtain ⟨L, hLd⟩ : ∃ L, L = h.flatten.length := ⟨_, rfl⟩
      rw [← hLd] at hs ⊢
      have HLd := Lib.hid hLd
      obtain ⟨wo, hwo⟩ : ∃ wo, wo = wr := ⟨_, rfl⟩
      subst hwo
      have Hg := Lib.hid (Grow_any L hs wo)
      clear hall hLd
      go_wp2_with fail
      refine Hg.out.mono ?_
      rintro e w1 ⟨v1, rfl, ha1, hb1⟩
      have Ha1 := Lib.hid ha1
      have Hb1 := Lib.hid hb1
      have hsz := hb1.size
      have HL1 := Lib.hid (HL.out.below hb1)
      clear ha1 hb1 Hg
      go_wp2_with fail
      go_loopw [6, 8, 27] (fun v6 _ v27 wq => ∃ j : Nat, j ≤ k ∧ v27 = .int .i64 (j : Int) ∧ App wq wo.heap.size 3 v6 (h.take j).flatten.length ((h.take j).flatten.map intV) ∧ Below wo.heap.size wo wq) (fun _ _ v27 _ => k - (intOf v27).toNat)
      case atStart => exact ⟨0, by omega, rfl, by simpa using Ha1.out, Hb1.out⟩
      case round =>
        obtain ⟨j, hj, rfl, happ, hB⟩ := hrel
        have hsz2 := hB.size
        by_cases hlt : j < k
        · obtain ⟨b, off, v, x, rfl, hx, cx, hrx⟩ := (HL.out.below hB).at_ hlt
          have hvn := hrx.len1
          have hf := flatI_succ hx
          have h1 := Hfl.out (j + 1)
          have hfl2 : (h.take (j + 1)).flatten.length = (h.take j).flatten.length + v.n := by rw [hf, List.length_append, hvn]
          have hfm : (h.take (j + 1)).flatten.map intV = (h.take j).flatten.map intV ++ x.map intV := by rw [hf, List.map_append]
          rw [hfl2, ← HLd.out] at h1
          have hone := oneI x
          have Happ := Lib.hid happ
          have HB := Lib.hid hB
          have Hrx := Lib.hid hrx
          have Hfl2 := Lib.hid hfl2
          have Hfm := Lib.hid hfm
          have Hone := Lib.hid hone
          clear happ hB hrx hfl2 hfm hvn hf hx hone
          generalize (h.take j).flatten.length = S at *
          generalize (h.take j).flatten.map intV = SB at *
          go_wp2_with (at_builtin; go_loud (refine wpList_app rfl (.tmp 31) (.tmp 32) 30 rfl 3 i0 (.int .i64 0) 8 Try.underlying30 hi0 hz0 hz1 hz2 rfl wo.heap.size (by omega) _ _ _ rfl Happ.out v.a v.n v.c (x.map intV) rfl Hrx.out Hone.out (by unfold maxLen; omega) (by omega) ?_; intro v1 w3 happ1 hb1))
          exact ⟨⟨j + 1, by omega, by go_num, by rw [Hfl2.out, Hfm.out]; exact happ1, HB.out.trans hb1⟩, by simp [intOf]; omega⟩
        · obtain rfl : j = k := by omega
          have hall : h.take j = h := List.take_of_length_le (by omega)
          rw [hall, ← HLd.out] at happ
          obtain ⟨A', c', rfl, hc', hR⟩ := happ.trd
          have HR := Lib.hid hR
          have HB := Lib.hid hB
          clear hR hB happ hall
          go_wp2_with fail
          go_ret
          rw [← HLd.out]
          exact ⟨A', c', rfl, HR.out, hc', HB.out⟩


end Go.Proofs.Ytgelchbbknckcaa
