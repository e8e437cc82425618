/- The reference's Chunks: at most n chunks of at most 8 bytes, and at least one. -/
import Derived.Test.YtgblkaoioeceiaaDoorBytes
namespace Go.Proofs.YtgblkaoioeceiaaDoor
open Go.RowKit Go.Sort

theorem ownsRow_empty {w : World} {base : Nat} (e : TypeId) (sz : Nat) (hb : base ≤ w.heap.size) : (w.alloc (.cells #[] e)).ownsRow base e sz (.slice (some ⟨w.heap.size, 0, none⟩) 0 0) 0 [] :=
  ⟨by simp, .inr ⟨w.heap.size, 0, #[], rfl, hb, heap_alloc_new _ _, Nat.le_refl _, by unfold maxLen; omega, by simp, by simp⟩⟩
def cut8 (cs : List (List UInt8)) (n : Nat) : List (List UInt8) := (cs.take n).map (·.take 8)
def chunksL (cs : List (List UInt8)) (n : Nat) : List (List UInt8) := if cut8 cs n = [] then [[1]] else cut8 cs n
theorem chunksL_len (cs : List (List UInt8)) (n : Nat) (hn : 1 ≤ n) : 1 ≤ (chunksL cs n).length ∧ (chunksL cs n).length ≤ n := by
  unfold chunksL
  split
  · simp; omega
  · rename_i h
    have : 0 < (cut8 cs n).length := List.length_pos_iff.2 h
    have h2 : (cut8 cs n).length ≤ n := by simp [cut8]; omega
    omega
theorem chunksL_small (cs : List (List UInt8)) (n : Nat) : ∀ c ∈ chunksL cs n, c.length ≤ 8 := by
  unfold chunksL
  split
  · simp
  · intro c hc
    obtain ⟨a, _, rfl⟩ := List.mem_map.1 hc
    simp; omega

/-- The cut slices. -/
def Cut (w : World) (vs : List Sl) (cs : List (List UInt8)) : Prop := vs.length = cs.length ∧ ∀ (k : Nat) (v : Sl) (c : List UInt8), vs[k]? = some v → cs[k]? = some c → Rd w 1 v.a v.n (c.map byteV) ∧ v.n ≤ v.c
theorem Cut.snoc {w : World} {vs : List Sl} {cs : List (List UInt8)} (h : Cut w vs cs) {v : Sl} {c : List UInt8} (hr : Rd w 1 v.a v.n (c.map byteV)) (hc : v.n ≤ v.c) : Cut w (vs ++ [v]) (cs ++ [c]) := by
  refine ⟨by simp [h.1], fun k v' c' hv hc' => ?_⟩
  by_cases hk : k < vs.length
  · rw [List.getElem?_append_left hk] at hv
    rw [List.getElem?_append_left (by rw [← h.1]; exact hk)] at hc'
    exact h.2 k v' c' hv hc'
  · rw [List.getElem?_append_right (by omega)] at hv
    rw [List.getElem?_append_right (by rw [← h.1]; omega), ← h.1] at hc'
    have h0 : k - vs.length = 0 := by
      rcases Nat.eq_zero_or_pos (k - vs.length) with h0 | h0
      · exact h0
      · rw [List.getElem?_eq_none (by simp; omega)] at hv
        cases hv
    rw [h0] at hv hc'
    cases hv; cases hc'
    exact ⟨hr, hc⟩
theorem elem22 : Tryd.prog.elem 22 = 5 := by kernel_rfl
theorem und22 : Tryd.prog.underlying 22 = some (.slice (Tryd.prog.elem 22)) := by rw [elem22]; exact Tryd.underlying22
theorem run_bytes_head (a : Option Addr) (n c m : Nat) (hm : m ≤ c) (w : World) : (Instr.slice 22 (.slice a n c) none (some (.int .i64 (m : Int))) none).run Tryd.prog w = .ok (.slice a m c) w := by
  obtain ⟨iE, hi'⟩ : ∃ i, Tryd.prog.info? 5 = some i := by
    have := size22'
    unfold Program.cellsOf at this
    cases h : Tryd.prog.info? 5 with
    | none => simp [h] at this
    | some i => exact ⟨i, rfl⟩
  rw [run_slice_h (P := Tryd.prog) w 22 a n c und22 .i64 (m : Int) (by omega) (by omega), elem22, run_sizeOf w hi', size22']
  simp only [Result.andThen_ok, sliced, Int.toNat_natCast, Nat.zero_mul, Nat.sub_zero]
  have h0 : ∀ x : Addr, x.add 0 = x := fun x => by obtain ⟨b, o, s⟩ := x; unfold Addr.add; split <;> simp_all
  have : (if c = 0 then a else a.map fun x => x.add 0) = a := by
    split
    · rfl
    · cases a with
      | none => rfl
      | some x => simp [h0]
  rw [this]
theorem info22 : (Tryd.prog.info? 22).map (fun i => (i.zero, i.size, i.bytes)) = some (some (.slice none 0 0), 1, 24) := by kernel_rfl

set_option maxRecDepth 100000 in
set_option maxHeartbeats 1000000 in
theorem Chunks_any (A : Option Addr) (len cap n : Nat) (cs : List (List UInt8)) (w : World) (hr : Lst w A len cs) (h1 : 1 ≤ n) (hn : n ≤ 1000) :
    Calls Tryd.prog 11 #[.slice A len cap, .int .i64 (n : Int)] w fun e w' => ∃ A' n' c', e = .returned (.slice A' n' c') ∧ n' ≤ c' ∧ Lst w' A' n' (chunksL cs n) ∧ Below w.heap.size w w' := by
  obtain ⟨i0, hi0, hz0, hz1, hz2⟩ := info_parts info22
  have hle := hr.le
  have hl := hr.len
  subst hl
  have hown := ownsRow_empty (w := w) (base := w.heap.size) 22 1 (Nat.le_refl _)
  go_enter Tryd.func11, Tryd.ntmps11
  go_wp2
  go_loopw [5, 6] (fun v i wr => ∃ (k : Nat) (vs : List Sl), k ≤ cs.length ∧ k ≤ n ∧ i = .int .i64 k ∧ wr.ownsRow w.heap.size 22 1 v k (vs.map slV) ∧ Cut w vs (cut8 cs k) ∧ Below w.heap.size w wr) (fun _ i _ => n - (intOf i).toNat)
  case atStart => exact ⟨0, [], by omega, by omega, rfl, hown, ⟨rfl, fun k v c h => by simp at h⟩, (Below.refl _ _).alloc (Nat.le_refl _) _⟩
  case round =>
    obtain ⟨k, vs, hk, hkn, rfl, hrow, hcut, hB⟩ := hrel
    have hsz := hB.size
    clear hown
    by_cases hlt : k < cs.length
    · by_cases hltn : k < n
      · obtain ⟨b, off, v, c, rfl, hx, c1, hrd, hvc⟩ := hr.at_ hlt
        have hvn := hrd.len1
        have cw := (hB.cell (World.block_lt_of_cell? w _ c1)).trans c1
        have hct : cut8 cs (k + 1) = cut8 cs k ++ [c.take 8] := by
          unfold cut8
          rw [List.take_add_one, hx, List.map_append]
          rfl
        obtain ⟨m, hm, hml, hm8⟩ : ∃ m : Nat, (m : Int) = (if (8 : Int) < (v.n : Int) then 8 else (v.n : Int)) ∧ m ≤ v.n ∧ c.take 8 = c.take m := by
          by_cases h : v.n ≤ 8
          · exact ⟨v.n, by rw [if_neg (by omega)], Nat.le_refl _, by rw [List.take_of_length_le (by omega), List.take_of_length_le (by omega)]⟩
          · exact ⟨8, by rw [if_pos (by omega)]; rfl, by omega, rfl⟩
        have hrm := hrd.head1 hml
        rw [← hm8] at hrm
        have hsn := hcut.snoc (v := ⟨v.a, m, v.c⟩) hrm (by show m ≤ v.c; omega)
        rw [← hct] at hsn
        have Hsn := Lib.hid hsn
        have Hrow := Lib.hid hrow
        have HB := Lib.hid hB
        have hvb := hrd.le
        clear hsn hrow hB hrm hct hcut hrd hr c1 hx hm8
        go_wp2_with fail
        have kc := cell_regrown cw
        refine wp_region_reads_tail 13 [0, 1, 2, 3, 4, 5, 6, 7, 8, 9] 3 (by kernel_rfl) (List.take_append_drop _ _) rfl (by kernel_rfl) (by kernel_rfl) (by kernel_rfl) (by decide) (by kernel_rfl) (by kernel_rfl) (fun _ _ d _ _ h => by cases d <;> exact h) (by kernel_rfl) (by kernel_rfl) rfl ?_
        simp only [List.take_succ_cons, List.take_zero, List.drop_succ_cons, List.drop_zero, pickOps, List.getElem?_cons_zero, List.getElem?_cons_succ]
        repeat (go_big_quiet_step (fail))
        refine wpQuiet_nil ?_
        refine wpAnyH_one (i := 10) (by kernel_rfl) rfl ?_
        intro K hK
        go_simp
        have hB1 : Below wr.heap.size wr wr.drew := (Below.refl _ wr).drew
        refine hK _ _ (ext_of hB1) ?_
        clear hK K
        rw [← hm]
        clear hm
        have hsl := run_bytes_head v.a v.n v.c m (by omega)
        refine wpAnyH_one (i := 11) (by kernel_rfl) rfl ?_
        intro K hK
        go_simp
        refine hK _ _ (ext_of hB1) ?_
        clear hK K hsl
        refine wpAnyH_one (i := 12) (by kernel_rfl) rfl ?_
        intro K hK
        go_simp
        refine hK _ _ (ext_of (hB1.alloc hB1.size _)) ?_
        clear hK K
        refine wpAnyH_done (by kernel_rfl) ?_ _
        have hrow1 : (wr.drew.alloc (.cells #[.slice v.a m v.c] 22)).ownsRow w.heap.size 22 1 u5 k (vs.map slV) := World.ownsRow.alloc (w := wr.drew) Hrow.out _
        simp only [Exit.then]
        refine wpList_append_own _ rfl (.tmp 19) (.tmp 31) 23 rfl w.heap.size 22 i0 (.slice none 0 0) 1 24 Tryd.underlying23 hi0 hz0 hz1 hz2 rfl (by decide) u5 _ _ rfl hrow1 ⟨wr.drew.heap.size, 0, none⟩ 1 1 [.slice v.a m v.c] rfl rfl (cells_new _ _ _) (by simp [Value.oneCell']) (by unfold maxLen; omega) (by omega) (by simp; omega) ?_
        intro v' w1 hown' hgrow _
        have hB3 : Below w.heap.size w w1 := ((HB.out.drew).alloc hsz _).grown hgrow (by simp; omega) (fun k' e' => (hrow1.lt k' e').1)
        have Hown' := Lib.hid hown'
        have HB3 := Lib.hid hB3
        clear hgrow hB3 hown' hrow1 hB1
        simp only [Act.put, List.setIfInBounds_toArray, List.set_cons_succ, List.set_cons_zero]
        go_wp2
        exact ⟨⟨k + 1, vs ++ [⟨v.a, m, v.c⟩], by omega, by omega, by go_num, by rw [List.map_append]; exact Hown'.out, Hsn.out, HB3.out⟩, by simp [intOf]; omega⟩
      · have hck : cut8 cs k = cut8 cs n := by rw [show k = n from by omega]
        clear hr
        go_upto_region 6 with fail
        obtain ⟨A2, c2, rfl⟩ := ownsRow_slice hrow
        have hcc := ownsRow_cap hrow
        have hvl : vs.length = k := by have := hrow.1; simpa using this
        have hle2 : k ≤ 9223372036854775807 := by omega
        have HB := Lib.hid hB
        by_cases h0 : k = 0
        · exfalso; omega
        · have hne : cut8 cs n ≠ [] := fun e => h0 (by rw [← hvl, hcut.1, hck, e]; rfl)
          have hch : chunksL cs n = cut8 cs k := by unfold chunksL; rw [if_neg hne, hck]
          have hfin : Lst wr A2 k (cut8 cs k) := ⟨vs, Rd.of_own hrow, by rw [← hcut.1, hvl], fun j v c hv hc => ⟨((hcut.2 j v c hv hc).1).below hB, (hcut.2 j v c hv hc).2⟩⟩
          have Hch := Lib.hid hch
          have Hfin := Lib.hid hfin
          have hk0 : ((k : Int) == 0) = false := by rw [beq_eq_false_iff_ne]; omega
          clear hch hrow hcut hB hck hfin hne
          go_wp2
          go_ret
          exact ⟨A2, k, c2, rfl, hcc, by rw [Hch.out]; exact Hfin.out, HB.out⟩
    · have hck : cut8 cs k = cut8 cs n := by unfold cut8; rw [List.take_of_length_le (by omega), List.take_of_length_le (by omega)]
      clear hr
      go_upto_region 6 with fail
      obtain ⟨A2, c2, rfl⟩ := ownsRow_slice hrow
      have hcc := ownsRow_cap hrow
      have hvl : vs.length = k := by have := hrow.1; simpa using this
      have hle2 : k ≤ 9223372036854775807 := by omega
      have HB := Lib.hid hB
      by_cases h0 : k = 0
      · subst h0
        have hch : chunksL cs n = [[1]] := by unfold chunksL; rw [if_pos (by rw [← hck]; rfl)]
        have Hch := Lib.hid hch
        have hnew : Lst ((wr.alloc (.cells #[.int .u8 1] 5)).alloc (.cells #[.slice (some ⟨wr.heap.size, 0, none⟩) 1 1] 22)) (some ⟨wr.heap.size + 1, 0, none⟩) 1 [[1]] := by
          refine ⟨[⟨some ⟨wr.heap.size, 0, none⟩, 1, 1⟩], ?_, rfl, fun j v c hv hc => ?_⟩
          · have hb := Blk.new (wr.alloc (.cells #[.int .u8 1] 5)) 22 #[.slice (some ⟨wr.heap.size, 0, none⟩) 1 1]
            rw [World.size_alloc] at hb
            exact hb.rd (xs := [.slice (some ⟨wr.heap.size, 0, none⟩) 1 1]) (by simp)
          · have hj : j < 1 := by have := (List.getElem?_eq_some_iff.1 hc).1; simpa using this
            obtain rfl : j = 0 := by omega
            cases hv; cases hc
            exact ⟨((Blk.new wr 5 #[byteV 1]).alloc _).rd (xs := [byteV 1]) (by simp), Nat.le_refl _⟩
        have Hnew := Lib.hid hnew
        clear hnew hch hrow hcut hB hck
        go_wp2
        go_ret
        exact ⟨_, 1, 1, rfl, by omega, by rw [Hch.out]; exact Hnew.out, (HB.out.alloc hsz _).alloc (by simp; omega) _⟩
      · have hne : cut8 cs n ≠ [] := fun e => h0 (by rw [← hvl, hcut.1, hck, e]; rfl)
        have hch : chunksL cs n = cut8 cs k := by unfold chunksL; rw [if_neg hne, hck]
        have hfin : Lst wr A2 k (cut8 cs k) := ⟨vs, Rd.of_own hrow, by rw [← hcut.1, hvl], fun j v c hv hc => ⟨((hcut.2 j v c hv hc).1).below hB, (hcut.2 j v c hv hc).2⟩⟩
        have Hch := Lib.hid hch
        have Hfin := Lib.hid hfin
        have hk0 : ((k : Int) == 0) = false := by rw [beq_eq_false_iff_ne]; omega
        clear hch hrow hcut hB hck hfin hne
        go_wp2
        go_ret
        exact ⟨A2, k, c2, rfl, hcc, by rw [Hch.out]; exact Hfin.out, HB.out⟩
end Go.Proofs.YtgblkaoioeceiaaDoor
