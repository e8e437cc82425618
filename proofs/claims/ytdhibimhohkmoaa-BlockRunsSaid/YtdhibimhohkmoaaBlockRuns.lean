/- BlockRuns: a run of one byte. -/
import Derived.Test.YtdhibimhohkmoaaBlockSane
import Derived.Test.YtdhibimhohkmoaaBlockLaw3
import Derived.BigQuiet
import Derived.StillTailTactics
import Derived.Deep.RegionWith
import Derived.Deep.CutRange
namespace Go.Proofs.Ytdhibimhohkmoaa
open Go.RowKit

set_option maxHeartbeats 400000 in
theorem Made_exact (x y : UInt8) (w : World) :
    Calls Try.prog 21 #[.agg #[.int .u8 (x.toNat : Int), .int .u8 (y.toNat : Int)]] w fun e w' => e = .returned (.agg #[.int .i64 ((4 + x.toNat % 8 : Nat) : Int), .int .i64 ((4 + x.toNat % 8 + y.toNat % 16 : Nat) : Int)]) ∧
      w' = (w.alloc (.cells #[.int .u8 (x.toNat : Int), .int .u8 (y.toNat : Int)] 45)).alloc (.cells #[.int .i64 ((4 + x.toNat % 8 : Nat) : Int), .int .i64 ((4 + x.toNat % 8 + y.toNat % 16 : Nat) : Int)] 27) := by
  have hx := x.toNat_lt
  have hy := y.toNat_lt
  have b0 := (Blk.new w 45 #[.int .u8 (x.toNat : Int), .int .u8 (y.toNat : Int)])
  have e1 : ((4 + x.toNat % 8 : Nat) : Int) = 4 + (x.toNat : Int) % 8 := by omega
  have e2 : ((4 + x.toNat % 8 + y.toNat % 16 : Nat) : Int) = 4 + (x.toNat : Int) % 8 + (y.toNat : Int) % 16 := by omega
  rw [e1, e2]
  clear e1 e2
  go_enter Try.func21, Try.ntmps21
  go_wp2
  refine bodyPost_ret (v := .agg #[.int .i64 (4 + (x.toNat : Int) % 8), .int .i64 (4 + (x.toNat : Int) % 8 + (y.toNat : Int) % 16)]) ?_ rfl ⟨rfl, rfl⟩
  simp [results, Try.results21, go_sem]
theorem Blk.new' {W : World} {B : Nat} {t : TypeId} {cs : Array Value} (h : B = W.heap.size) : Blk (W.alloc (.cells cs t)) B t cs := by subst h; exact Blk.new W t cs
theorem info5' : (Try.prog.info? 5).map (fun i => (i.zero, i.size, i.bytes)) = some (some (.int .u8 0), 1, 1) := by kernel_rfl
theorem madeCells_one (v : Value) (k : Nat) : madeCells #[v] k = (List.replicate k v).toArray := by
  apply Array.ext
  · simp [madeCells]
  · intro i h1 h2
    simp [madeCells, Nat.mod_one]
theorem mkN (w : World) (k : Nat) (hk : k ≤ 100000) : (Instr.makeSlice 22 (.int .i64 (k : Int)) (.int .i64 (k : Int))).run Try.prog w = .ok (.slice (some ⟨w.heap.size, 0, none⟩) k k) (w.alloc (.cells (List.replicate k (.int .u8 0)).toArray 5)) := by
  obtain ⟨i0, hi0, hz0, hz1, hz2⟩ := info_parts info5'
  have h := run_make (P := Try.prog) w 22 5 i0 (.int .u8 0) Try.underlying22 hi0 hz0 .i64 .i64 (k : Int) (k : Int) (by omega) (by omega) (by rw [hz2]; omega) (by omega)
  rw [hz1, Int.toNat_natCast, Nat.mul_one, show (Value.int IntKind.u8 0).cells = #[.int .u8 0] from rfl, madeCells_one] at h
  exact h
/-- Block B holds the bytes c up to place j, and 0 from there on. -/
def Part8 (W : World) (B : Nat) (c : UInt8) (k j : Nat) : Prop := Blk W B 5 (List.replicate j (byteV c) ++ List.replicate (k - j) (byteV 0)).toArray
theorem part8_set {W : World} {B : Nat} {c : UInt8} {k j : Nat} (h : Part8 W B c k j) (hj : j < k) : Part8 (W.setCell ⟨B, j, none⟩ (byteV c)) B c k (j + 1) := by
  unfold Part8 Blk at *
  have h2 := heap_setCell_same W B j _ 5 (byteV c) h
  rw [h2]
  congr 2
  rw [List.setIfInBounds_toArray]
  congr 1
  rw [List.set_append, if_neg (by simp), List.length_replicate, Nat.sub_self, List.replicate_succ', show k - j = (k - (j + 1)) + 1 from by omega, List.replicate_succ, List.set_cons_zero]
  simp
theorem part8_rd {W : World} {B : Nat} {c : UInt8} {k : Nat} (h : Part8 W B c k k) (hk : k ≤ 100000) : Rd W 1 (some ⟨B, 0, none⟩) k ((List.replicate k c).map byteV) := by
  refine ⟨by simp, by omega, fun _ => ⟨B, 0, rfl, fun j u hu => ?_⟩⟩
  have := Blk.cell h j
  rw [Nat.zero_add, this]
  rw [List.map_replicate] at hu
  rw [Nat.sub_self, List.replicate_zero, List.append_nil, List.getElem?_toArray]
  exact hu
theorem part8_old {W : World} {B : Nat} {c : UInt8} {k j : Nat} (h : Part8 W B c k j) (hj : j < k) : W.cell? ⟨B, j, none⟩ = some (byteV 0) ∧ W.frozen? ⟨B, j, none⟩ = false := by
  refine ⟨?_, Blk.frozen h j⟩
  rw [Blk.cell h j]
  simp only [List.getElem?_toArray]
  rw [List.getElem?_append_right (by simp), List.length_replicate, Nat.sub_self, List.getElem?_replicate, if_pos (by omega)]

set_option maxRecDepth 100000 in
set_option maxHeartbeats 2000000 in
theorem Runs_any (c : UInt8) (n : Int) (x y : UInt8) (w : World) (hn : 0 ≤ n ∧ n ≤ 65535) :
    Calls Try.prog 9 #[.int .u8 (c.toNat : Int), .int .u16 n, .agg #[.int .u8 (x.toNat : Int), .int .u8 (y.toNat : Int)]] w fun e w' => e = .returned (.bool true) ∧ Below w.heap.size w w' := by
  have hlo : 4 ≤ 4 + x.toNat % 8 := by omega
  have hlh : 4 + x.toNat % 8 ≤ 4 + x.toNat % 8 + y.toNat % 16 := by omega
  have hhi : 4 + x.toNat % 8 + y.toNat % 16 ≤ 26 := by omega
  have hM := fun W => Made_exact x y W
  generalize 4 + x.toNat % 8 = lo at *
  generalize lo + y.toNat % 16 = hi at *
  obtain ⟨k, hk1, hk2⟩ : ∃ k : Nat, n.tmod 601 = (k : Int) ∧ k ≤ 600 := by
    refine ⟨(n % 601).toNat, ?_, ?_⟩
    · rw [Int.tmod_eq_emod_of_nonneg hn.1]
      omega
    · omega
  go_enter Try.func9, Try.ntmps9
  go_wp2_with fail
  have cB := Blk.new w 45 #[.int .u8 (x.toNat : Int), .int .u8 (y.toNat : Int)]
  have B0 : Below w.heap.size w (w.alloc (.cells #[.int .u8 (x.toNat : Int), .int .u8 (y.toNat : Int)] 45)) := (Below.refl _ w).alloc (Nat.le_refl _) _
  refine (sanity_any _).mono ?_
  rintro e w1 ⟨rfl, hb1⟩
  have cB := cB.below hb1 (by simp)
  have B1 := B0.trans (hb1.mono (by simp))
  have c0 := cB.cell 0
  have c1 := cB.cell 1
  simp only [List.getElem?_toArray, List.getElem?_cons_zero, List.getElem?_cons_succ] at c0 c1
  clear B0 hb1
  have hw : IntKind.i64.wrap n = n := by rw [IntKind.wrap_i64]; omega
  have hm := fun W => mkN W k (by omega)
  have hz := cB.lt
  have c0a : ∀ o, (w1.alloc o).cell? ⟨w.heap.size, 0, none⟩ = some (.int .u8 (x.toNat : Int)) := fun o => ((Below.heap_alloc w1 o _ hz |> World.cell?_of_block (w := w1) (a := ⟨w.heap.size, 0, none⟩))).trans c0
  have c1a : ∀ o, (w1.alloc o).cell? ⟨w.heap.size, 1, none⟩ = some (.int .u8 (y.toNat : Int)) := fun o => ((Below.heap_alloc w1 o _ hz |> World.cell?_of_block (w := w1) (a := ⟨w.heap.size, 1, none⟩))).trans c1
  have c0b : ∀ o o', ((w1.alloc o).alloc o').cell? ⟨w.heap.size, 0, none⟩ = some (.int .u8 (x.toNat : Int)) := fun o o' => ((Below.heap_alloc (w1.alloc o) o' _ (by simp; omega) |> World.cell?_of_block (w := w1.alloc o) (a := ⟨w.heap.size, 0, none⟩))).trans (c0a o)
  have c1b : ∀ o o', ((w1.alloc o).alloc o').cell? ⟨w.heap.size, 1, none⟩ = some (.int .u8 (y.toNat : Int)) := fun o o' => ((Below.heap_alloc (w1.alloc o) o' _ (by simp; omega) |> World.cell?_of_block (w := w1.alloc o) (a := ⟨w.heap.size, 1, none⟩))).trans (c1a o)
  go_upto_region 2 with fail
  go_cut [8, 9] from 16 to 21 (fun t8 t9 wx => ∃ B8 B9 : Nat, t8 = .pointer (some ⟨B8, 0, none⟩) ∧ t9 = .slice (some ⟨B9, 0, none⟩) k k ∧ B8 ≠ B9 ∧ w.heap.size ≤ B8 ∧ w.heap.size ≤ B9 ∧ Blk wx B8 27 #[.int .i64 lo, .int .i64 hi] ∧ Part8 wx B9 c k 0 ∧ Below w.heap.size w wx)
  case first =>
    go_region_with (go_at_call 21; refine (hM _).mono ?_; rintro e w2 ⟨rfl, rfl⟩)
    all_goals (go_wp2_with fail; go_meet)
    all_goals
      have hs1 := B1.size
      refine ⟨_, _, rfl, rfl, by omega, by omega, by omega, ?_, ?_, ((((B1.alloc B1.size _).alloc (by simp; omega) _).alloc (by simp; omega) _).alloc (by simp; omega) _).drew⟩
      · refine Blk.drew ?_
        repeat (first | (refine Blk.new' ?_; simp; done) | refine Blk.alloc ?_ _)
      · unfold Part8
        rw [List.replicate_zero, List.nil_append, Nat.sub_zero]
        refine Blk.drew ?_
        repeat (first | (refine Blk.new' ?_; simp; done) | refine Blk.alloc ?_ _)
  case rest =>
    obtain ⟨B8, B9, rfl, rfl, hne, h8, h9, b8, b9, B2⟩ := hcut
    clear hM hm hw c0 c1 c0a c1a c0b c1b hz cB B1
    go_wp2_with fail
    go_loopw [10] (fun i wr => ∃ j : Nat, j ≤ k ∧ i = .int .i64 j ∧ Blk wr B8 27 #[.int .i64 lo, .int .i64 hi] ∧ Part8 wr B9 c k j ∧ Below w.heap.size w wr) (fun i _ => k - (intOf i).toNat)
    case atStart => exact ⟨0, Nat.zero_le _, rfl, b8, b9, B2⟩
    case round =>
      obtain ⟨j, hj, rfl, b8, b9, B2⟩ := hrel
      by_cases hlt : j < k
      · have hc9 := part8_old b9 hlt
        obtain ⟨hc, hf⟩ := hc9
        have n1 := part8_set b9 hlt
        have n2 : Blk (wr.setCell ⟨B9, j, none⟩ (byteV c)) B8 27 #[.int .i64 lo, .int .i64 hi] := (heap_setCell_other wr ⟨B9, j, none⟩ B8 (byteV c) hne).trans b8
        have n3 : Below w.heap.size w (wr.setCell ⟨B9, j, none⟩ (byteV c)) := B2.setCell h9 _
        clear b8 b9 B2
        unfold byteV at hc
        go_wp2
        exact ⟨⟨j + 1, by omega, by go_num, n2, n1, n3⟩, by simp [intOf]; omega⟩
      · obtain rfl : j = k := by omega
        have c0 := b8.cell 0
        have c1 := b8.cell 1
        simp only [List.getElem?_toArray, List.getElem?_cons_zero, List.getElem?_cons_succ] at c0 c1
        have hr := part8_rd b9 (by omega)
        have hsz := runSize_in (x := c) hlo hlh
        have hlen := blocks_run_len j c lo hi hlo hlh
        have hat := fun i => blocks_run j c lo hi i hlo hlh
        have Hat := Lib.hid hat
        have Hlen := Lib.hid hlen
        have Hsz := Lib.hid hsz
        have hBG := fun W (hW : Below wr.heap.size wr W) => blocks_good (some ⟨B9, 0, none⟩) j j lo hi (List.replicate j c) hlo hlh (by omega) W (hr.below hW) (by omega)
        clear hat hlen hsz b9 hlt
        by_cases h4 : c.toNat % 4 = 0
        · have hc4 : (((c.toNat : Int) % 4) == 0) = true := by simp; omega
          have hrs : runSize c lo hi = lo := if_pos h4
          rw [hrs] at Hat Hlen Hsz
          clear hrs
          go_wp2_with fail
          refine (hBG _ (Below.refl _ _)).mono ?_
          rintro e w5 ⟨A5, n5, c5, rfl, rs5, hb5⟩
          have B5 := B2.trans (hb5.mono B2.size)
          obtain ⟨hs1, hs2⟩ := Hsz.out
          have l5 := rs5.lenf twoV_len (by omega)
          rw [List.length_map] at l5
          generalize blocks (List.replicate j c) lo hi = rs at *
          have hdiv : n5 = (j + lo - 1) / lo := by rw [← l5]; exact Hlen.out
          have hquo : ((j : Int) + (lo : Int) - 1).tdiv (lo : Int) = (n5 : Int) := by
            rw [show ((j : Int) + (lo : Int) - 1) = ((j + lo - 1 : Nat) : Int) from by omega, hdiv]
            exact (Int.natCast_ediv (j + lo - 1) lo ▸ Int.tdiv_eq_ediv_of_nonneg (by omega))
          have hn5 : n5 ≤ 700 := by
            rw [hdiv]
            exact Nat.le_trans (Nat.div_le_self _ _) (by omega)
          have H5 := Lib.hid l5
          have hlo0 : ¬ lo = 0 := by omega
          have hlo1 : ((lo : Int) == 0) = false := by simp; omega
          clear hBG hdiv l5 hb5 b8 c0 c1 hc4 h4 Hlen Hsz
          go_wp2_with fail
          go_loopw [14] (fun i wr => ∃ q : Nat, q ≤ n5 ∧ i = .int .i64 q ∧ wr = w5) (fun i _ => n5 - (intOf i).toNat)
          case atStart => exact ⟨0, Nat.zero_le _, rfl, rfl⟩
          case round =>
            obtain ⟨q, hq, rfl, rfl⟩ := hrel
            by_cases hlt : q < n5
            · obtain ⟨b5, off5, f5, t5, rfl, hx5, g1, g2⟩ := rs5.two_ hlt
              rw [List.getElem?_map] at hx5
              obtain ⟨r5, hr5, hy5⟩ := Option.map_eq_some_iff.1 hx5
              cases hy5
              have ha := Hat.out q
              rw [hr5] at ha
              have hqs : q * lo < j := by
                apply Classical.byContradiction
                intro hc
                rw [if_neg hc] at ha
                cases ha
              rw [if_pos hqs] at ha
              cases ha
              have hmul : (q : Int) * (lo : Int) = ((q * lo : Nat) : Int) := by simp
              clear hr5 hx5
              generalize q * lo = u at *
              replace g1 : wr.cell? ⟨b5, off5 + q * 2, none⟩ = some (.int .i64 (u : Int)) := g1
              have hmin : ((min (u + lo) j : Nat) : Int) = min ((u : Int) + (lo : Int)) (j : Int) := by omega
              replace g2 : wr.cell? ⟨b5, off5 + q * 2 + 1, none⟩ = some (.int .i64 (min ((u : Int) + (lo : Int)) (j : Int))) := g2.trans (by rw [← hmin])
              clear hmin
              go_wp2
              exact ⟨⟨q + 1, by omega, by go_num, trivial⟩, by simp [intOf]; omega⟩
            · obtain rfl : q = n5 := by omega
              go_wp2
              go_ret
              exact ⟨rfl, B5⟩
        · have hc4 : (((c.toNat : Int) % 4) == 0) = false := by simp; omega
          have hrs : runSize c lo hi = hi := if_neg h4
          rw [hrs] at Hat Hlen Hsz
          clear hrs
          go_wp2_with fail
          refine (hBG _ (Below.refl _ _)).mono ?_
          rintro e w5 ⟨A5, n5, c5, rfl, rs5, hb5⟩
          have B5 := B2.trans (hb5.mono B2.size)
          obtain ⟨hs1, hs2⟩ := Hsz.out
          have l5 := rs5.lenf twoV_len (by omega)
          rw [List.length_map] at l5
          generalize blocks (List.replicate j c) lo hi = rs at *
          have hdiv : n5 = (j + hi - 1) / hi := by rw [← l5]; exact Hlen.out
          have hquo : ((j : Int) + (hi : Int) - 1).tdiv (hi : Int) = (n5 : Int) := by
            rw [show ((j : Int) + (hi : Int) - 1) = ((j + hi - 1 : Nat) : Int) from by omega, hdiv]
            exact (Int.natCast_ediv (j + hi - 1) hi ▸ Int.tdiv_eq_ediv_of_nonneg (by omega))
          have hn5 : n5 ≤ 700 := by
            rw [hdiv]
            exact Nat.le_trans (Nat.div_le_self _ _) (by omega)
          have H5 := Lib.hid l5
          have hhi0 : ¬ hi = 0 := by omega
          have hhi1 : ((hi : Int) == 0) = false := by simp; omega
          clear hBG hdiv l5 hb5 b8 c0 c1 hc4 h4 Hlen Hsz
          go_wp2_with fail
          go_loopw [14] (fun i wr => ∃ q : Nat, q ≤ n5 ∧ i = .int .i64 q ∧ wr = w5) (fun i _ => n5 - (intOf i).toNat)
          case atStart => exact ⟨0, Nat.zero_le _, rfl, rfl⟩
          case round =>
            obtain ⟨q, hq, rfl, rfl⟩ := hrel
            by_cases hlt : q < n5
            · obtain ⟨b5, off5, f5, t5, rfl, hx5, g1, g2⟩ := rs5.two_ hlt
              rw [List.getElem?_map] at hx5
              obtain ⟨r5, hr5, hy5⟩ := Option.map_eq_some_iff.1 hx5
              cases hy5
              have ha := Hat.out q
              rw [hr5] at ha
              have hqs : q * hi < j := by
                apply Classical.byContradiction
                intro hc
                rw [if_neg hc] at ha
                cases ha
              rw [if_pos hqs] at ha
              cases ha
              have hmul : (q : Int) * (hi : Int) = ((q * hi : Nat) : Int) := by simp
              clear hr5 hx5
              generalize q * hi = u at *
              replace g1 : wr.cell? ⟨b5, off5 + q * 2, none⟩ = some (.int .i64 (u : Int)) := g1
              have hmin : ((min (u + hi) j : Nat) : Int) = min ((u : Int) + (hi : Int)) (j : Int) := by omega
              replace g2 : wr.cell? ⟨b5, off5 + q * 2 + 1, none⟩ = some (.int .i64 (min ((u : Int) + (hi : Int)) (j : Int))) := g2.trans (by rw [← hmin])
              clear hmin
              go_wp2
              exact ⟨⟨q + 1, by omega, by go_num, trivial⟩, by simp [intOf]; omega⟩
            · obtain rfl : q = n5 := by omega
              go_wp2
              go_ret
              exact ⟨rfl, B5⟩
end Go.Proofs.Ytdhibimhohkmoaa
