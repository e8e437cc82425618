/- Package fetch: slices.Grow, slices.Concat, Done; the reference's Done. -/
import Derived.Test.YthlecmmngldodaaDoorF8
import Derived.Test.YthlecmmngldodaaDoorF6
import Derived.Lib.AppendZeros
import Derived.Laws.OwnMore
namespace Go.Proofs.YthlecmmngldodaaDoor
open Go.RowKit Go.Sort

theorem run_nil_head (w : World) : (Instr.slice 22 (.slice none 0 0) none (some (.int .i64 0)) none).run Tryd.prog w = .ok (.slice none 0 0) w := run_bytes_head none 0 0 0 (Nat.le_refl _) w
theorem run_head0 (a : Option Addr) (n c : Nat) (w : World) : (Instr.slice 22 (.slice a n c) none (some (.int .i64 0)) none).run Tryd.prog w = .ok (.slice a 0 c) w := run_bytes_head a n c 0 (Nat.zero_le _) w
set_option maxRecDepth 100000 in
set_option maxHeartbeats 1000000 in
/-- slices.Grow of the nil slice. -/
theorem Grow_any (n : Nat) (hn : n ≤ 1000000000) (w : World) :
    Calls Tryd.prog 59 #[.slice none 0 0, .int .i64 (n : Int)] w fun e w' => ∃ v, e = .returned v ∧ App w' w.heap.size 5 v 0 [] ∧ Below w.heap.size w w' := by
  obtain ⟨i0, hi0, hz0, hz1, hz2⟩ := info_parts info5
  by_cases h0 : n = 0
  · subst h0
    go_enter Tryd.func59, Tryd.ntmps59
    go_wp2_with fail
    go_ret
    exact ⟨_, rfl, .inr (World.ownsRow_nil _ _ _ _), Below.refl _ _⟩
  · have happ := fun ty => Lib.run_append_nil_zeros (P := Tryd.prog) w 22 3 ty 5 i0 (.int .u8 0) .i64 .i64 Tryd.underlying22 (by kernel_rfl) hi0 hz0 n (by omega) (by omega) (by omega) (by rw [hz2]; omega)
    have hcapge : n ≤ grownCap w n 0 5 := grownCap_ge w _ 0 5
    have hcaple : grownCap w n 0 5 ≤ maxLen := grownCap_le_maxLen w _ 0 5 (by unfold maxLen; omega)
    generalize grownCap w n 0 5 = cp at happ hcapge hcaple
    generalize hZ : (Builtin.zeroCells (Value.int .u8 0).cells n ++ Builtin.zeroCells (Value.int .u8 0).cells (cp - n)) = Z at happ
    have hZs : Z.size = cp := by rw [← hZ]; simp [size_zeroCells, Value.cells]; omega
    have Happ := Lib.hid happ
    have Hn := Lib.hid h0
    have hpos : 0 < n := by omega
    have hh1 := run_nil_head
    have hh2 := run_head0 (some ⟨w.heap.size, 0, none⟩) n cp
    clear hZ happ h0
    go_enter Tryd.func59, Tryd.ntmps59
    go_wp2_with (at_builtin; refine Lib.wpList_append_run _ rfl (.tmp 20) (.tmp 21) 22 3 rfl _ _ rfl rfl _ _ (Happ.out _) ?_)
    go_ret
    refine ⟨_, rfl, .inr ⟨by simp, .inr ⟨w.heap.size, cp, Z, rfl, Nat.le_refl _, Blk.new w.drew _ _, Nat.zero_le _, hcaple, by rw [hZs]; simp, by simp⟩⟩, ((Below.refl _ w).drew).alloc (Nat.le_refl _) _⟩

def sumTo (h : List (List UInt8)) (k : Nat) : Nat := (h.take k).flatten.length
theorem flat_succ {h : List (List UInt8)} {k : Nat} {x : List UInt8} (hx : h[k]? = some x) : (h.take (k + 1)).flatten = (h.take k).flatten ++ x := by
  rw [List.take_add_one, hx]; simp
theorem flat_le (h : List (List UInt8)) (k : Nat) : (h.take k).flatten.length ≤ h.flatten.length := by
  conv => rhs; rw [← List.take_append_drop k h]
  rw [List.flatten_append, List.length_append]
  omega

set_option maxRecDepth 100000 in
set_option maxHeartbeats 1000000 in
/-- slices.Concat of lists of bytes. -/
theorem Concat_any (A : Option Addr) (n c : Nat) (h : List (List UInt8)) (w : World) (hL : Lst w A n h) (hn : n ≤ 1000000) (hs : h.flatten.length ≤ 1000000000) :
    Calls Tryd.prog 44 #[.slice A n c] w fun e w' => ∃ A' c', e = .returned (.slice A' h.flatten.length c') ∧ Rd w' 1 A' h.flatten.length (h.flatten.map byteV) ∧ Below w.heap.size w w' := by
  obtain ⟨i0, hi0, hz0, hz1, hz2⟩ := info_parts info5
  have hl := hL.len
  have HL := Lib.hid hL
  have hfl := flat_le h
  have Hfl := Lib.hid hfl
  clear hL hfl
  go_enter Tryd.func44, Tryd.ntmps44
  go_wp2_with fail
  go_loopw [3, 5, 11] (fun v3 _ v11 wr => ∃ k : Nat, k ≤ n ∧ v11 = .int .i64 (k : Int) ∧ v3 = .int .i64 (((h.take k).flatten.length : Nat) : Int) ∧ wr = w) (fun _ _ v11 _ => n - (intOf v11).toNat)
  case atStart => exact ⟨0, by omega, rfl, rfl, rfl⟩
  case round =>
    obtain ⟨k, hk, rfl, rfl, hwr⟩ := hrel
    subst hwr
    by_cases hlt : k < n
    · obtain ⟨b, off, v, x, rfl, hx, cx, hrx, _⟩ := HL.out.at_ hlt
      have hvn := hrx.len1
      have hf := flat_succ hx
      have h1 := Hfl.out (k + 1)
      have hfl2 : (h.take (k + 1)).flatten.length = (h.take k).flatten.length + v.n := by rw [hf, List.length_append, hvn]
      generalize hS : (h.take k).flatten.length = S at *
      have Hfl2 := Lib.hid hfl2
      have hb : S + v.n ≤ 1000000000 := by omega
      clear hfl2 hf hx hrx hS hvn h1
      go_wp2_with fail
      exact ⟨⟨k + 1, by omega, by go_num, by rw [Hfl2.out]; go_num, trivial⟩, by simp [intOf]; omega⟩
    · obtain rfl : k = n := by omega
      have hall : h.take k = h := List.take_of_length_le (by omega)
      rw [hall]
      obtain ⟨L, hLd⟩ : ∃ L, L = h.flatten.length := ⟨_, rfl⟩
      rw [← hLd] at hs ⊢
      have HLd := Lib.hid hLd
      obtain ⟨wo, hwo⟩ : ∃ wo, wo = wr := ⟨_, rfl⟩
      subst hwo
      have Hg := Lib.hid (Grow_any L hs wo)
      clear hall hLd
      go_wp2_with fail
      refine Hg.out.mono ?_
      rintro e w1 ⟨v1, rfl, ha1, hb1⟩
      have Ha1 := Lib.hid ha1
      have Hb1 := Lib.hid hb1
      have hsz := hb1.size
      have HL1 := Lib.hid (HL.out.below hb1)
      clear ha1 hb1 Hg
      go_wp2_with fail
      go_loopw [6, 8, 27] (fun v6 _ v27 wq => ∃ j : Nat, j ≤ k ∧ v27 = .int .i64 (j : Int) ∧ App wq wo.heap.size 5 v6 (h.take j).flatten.length ((h.take j).flatten.map byteV) ∧ Below wo.heap.size wo wq) (fun _ _ v27 _ => k - (intOf v27).toNat)
      case atStart => exact ⟨0, by omega, rfl, by simpa using Ha1.out, Hb1.out⟩
      case round =>
        obtain ⟨j, hj, rfl, happ, hB⟩ := hrel
        have hsz2 := hB.size
        by_cases hlt : j < k
        · obtain ⟨b, off, v, x, rfl, hx, cx, hrx, _⟩ := (HL.out.below hB).at_ hlt
          have hvn := hrx.len1
          have hf := flat_succ hx
          have h1 := Hfl.out (j + 1)
          have hfl2 : (h.take (j + 1)).flatten.length = (h.take j).flatten.length + v.n := by rw [hf, List.length_append, hvn]
          have hfm : (h.take (j + 1)).flatten.map byteV = (h.take j).flatten.map byteV ++ x.map byteV := by rw [hf, List.map_append]
          rw [hfl2, ← HLd.out] at h1
          have hone := oneB x
          have Happ := Lib.hid happ
          have HB := Lib.hid hB
          have Hrx := Lib.hid hrx
          have Hfl2 := Lib.hid hfl2
          have Hfm := Lib.hid hfm
          have Hone := Lib.hid hone
          clear happ hB hrx hfl2 hfm hvn hf hx hone
          generalize (h.take j).flatten.length = S at *
          generalize (h.take j).flatten.map byteV = SB at *
          go_wp2_with (at_builtin; go_loud (refine wpList_app rfl (.tmp 31) (.tmp 32) 22 rfl 5 i0 (.int .u8 0) 1 Tryd.underlying22 hi0 hz0 hz1 hz2 rfl wo.heap.size (by omega) _ _ _ rfl Happ.out v.a v.n v.c (x.map byteV) rfl Hrx.out Hone.out (by unfold maxLen; omega) (by omega) ?_; intro v1 w3 happ1 hb1))
          exact ⟨⟨j + 1, by omega, by go_num, by rw [Hfl2.out, Hfm.out]; exact happ1, HB.out.trans hb1⟩, by simp [intOf]; omega⟩
        · obtain rfl : j = k := by omega
          have hall : h.take j = h := List.take_of_length_le (by omega)
          rw [hall, ← HLd.out] at happ
          obtain ⟨A', c', rfl, hc', hR⟩ := happ.rd
          have HR := Lib.hid hR
          have HB := Lib.hid hB
          clear hR hB happ hall
          go_wp2_with fail
          go_ret
          rw [← HLd.out]
          exact ⟨A', c', rfl, HR.out, HB.out⟩

def allB (h : List (List UInt8)) : Bool := h.all fun x => !x.isEmpty
def doneE (h : List (List UInt8)) : Int := if allB h = true then 0 else 4
def doneL (h : List (List UInt8)) : List UInt8 := if allB h = true then h.flatten else []
theorem want_all (h : List (List UInt8)) : (wantL h).length = 0 ↔ allB h = true := by
  unfold wantL wantF allB
  rw [List.length_eq_zero_iff, List.filter_eq_nil_iff, List.all_eq_true]
  constructor
  · intro hh x hx
    obtain ⟨k, hk, rfl⟩ := List.mem_iff_getElem.1 hx
    have := hh k (List.mem_range.2 hk)
    rw [List.getD_eq_getElem?_getD, List.getElem?_eq_getElem hk] at this
    simpa using this
  · intro hh k hk
    have hk' := List.mem_range.1 hk
    have := hh h[k] (List.getElem_mem hk')
    rw [List.getD_eq_getElem?_getD, List.getElem?_eq_getElem hk']
    simpa using this

set_option maxRecDepth 100000 in
set_option maxHeartbeats 1000000 in
theorem Done_any (tr : Sum32) (A : Option Addr) (n c : Nat) (h : List (List UInt8)) (w : World) (hL : Lst w A n h) (hn : n ≤ 1000000) (hs : h.flatten.length ≤ 1000000000) :
    Calls Tryd.prog 24 #[.agg (fetchC tr A n c).toArray] w fun e w' => ∃ A' c', e = .returned (.tuple #[.slice A' (doneL h).length c', .int .i64 (doneE h)]) ∧ Rd w' 1 A' (doneL h).length ((doneL h).map byteV) ∧ Below w.heap.size w w' := by
  have hB : Below w.heap.size w (w.alloc (.cells (fetchC tr A n c).toArray 35)) := (Below.refl _ _).alloc (Nat.le_refl _) _
  have hC : Blk (w.alloc (.cells (fetchC tr A n c).toArray 35)) w.heap.size 35 (fetchC tr A n c).toArray := Blk.new _ _ _
  obtain ⟨d35, hd35, hrow35⟩ := und35
  have hwa := want_all h
  obtain ⟨E, hE⟩ : ∃ E, E = doneE h := ⟨_, rfl⟩
  obtain ⟨D, hD⟩ : ∃ D, D = doneL h := ⟨_, rfl⟩
  rw [← hE, ← hD]
  have HE := Lib.hid hE
  have HD := Lib.hid hD
  have Hwa := Lib.hid hwa
  clear hE hD hwa
  go_enter Tryd.func24, Tryd.ntmps24
  go_upto_region 1 with fail
  obtain ⟨w1, hw1⟩ : ∃ w1, w1 = w.alloc (.cells (fetchC tr A n c).toArray 35) := ⟨_, rfl⟩
  rw [← hw1] at hC hB ⊢
  clear hw1
  have hs1 := hC.lt
  have HB := Lib.hid hB
  have HC := Lib.hid hC
  have HL1 := Lib.hid (hL.below hB)
  have Hw := Lib.hid (Want_any tr A n c h w1 (hL.below hB) hn)
  clear hB hC hL
  go_wp2_with (refine wpList_load_mid rfl 35 (.tmp 1) rfl w.heap.size 0 rfl (fetchC tr A n c) _ (fetch_range HC.out) hd35 hrow35 (by rw [fetchC_len]; kernel_rfl) ?_)
  refine Hw.out.mono ?_
  rintro e w2 ⟨A2, c2, rfl, _, hb2⟩
  have HB2 := Lib.hid (HB.out.trans (hb2.mono HB.out.size))
  have c32 : w2.cell? ⟨w.heap.size, 32, none⟩ = some (.slice A n c) := by rw [(HC.out.below hb2 HC.out.lt).cell]; exact fetchC_have _ _ _ _
  have HL2 := Lib.hid (HL1.out.below hb2)
  clear hb2 Hw
  by_cases hall : allB h = true
  · have h0 := Hwa.out.2 hall
    have hEv : E = 0 := by rw [HE.out]; unfold doneE; rw [if_pos hall]
    have hDv : D = h.flatten := by rw [HD.out]; unfold doneL; rw [if_pos hall]
    have HEv := Lib.hid hEv
    have hc := Concat_any A n c h w2 HL2.out hn hs
    obtain ⟨F, hF⟩ : ∃ F, F = h.flatten := ⟨_, rfl⟩
    rw [← hF] at hc hDv
    have HDv := Lib.hid hDv
    have Hc := Lib.hid hc
    rw [h0]
    clear hEv hDv hall h0 hF hc hs
    go_wp2_with fail
    refine Hc.out.mono ?_
    rintro e w3 ⟨A3, c3, rfl, hR, hb3⟩
    have HR := Lib.hid hR
    have Hb3 := Lib.hid hb3
    clear hR hb3
    go_wp2_with fail
    go_ret2
    exact ⟨A3, c3, by rw [HEv.out, HDv.out]; rfl, by rw [HDv.out]; exact HR.out, HB2.out.trans (Hb3.out.mono HB2.out.size)⟩
  · have h0 : 0 < (wantL h).length := by
      rcases Nat.eq_zero_or_pos (wantL h).length with q | q
      · exact absurd (Hwa.out.1 q) hall
      · exact q
    have hEv : E = 4 := by rw [HE.out]; unfold doneE; rw [if_neg hall]
    have hDv : D = [] := by rw [HD.out]; unfold doneL; rw [if_neg hall]
    have HEv := Lib.hid hEv
    have HDv := Lib.hid hDv
    have hd0 : decide (0 < (wantL h).length) = true := decide_eq_true h0
    have hd1 : decide ((0 : Int) < ((wantL h).length : Int)) = true := decide_eq_true (by omega)
    clear hEv hDv hall
    go_wp2_with fail
    go_ret2
    exact ⟨none, 0, by rw [HEv.out, HDv.out]; rfl, by rw [HDv.out]; exact Rd.nil _ _ _, HB2.out⟩
end Go.Proofs.YthlecmmngldodaaDoor
