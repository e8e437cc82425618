/- BlockRest: from each cut on, the rest has the remaining blocks. -/
import Derived.Test.YtdhibimhohkmoaaBlockSane
import Derived.Test.YtdhibimhohkmoaaBlockLaw4
import Derived.Test.YtdhibimhohkmoaaBlockCap
import Derived.Test.YtdhibimhohkmoaaBlockRanges
import Derived.Deep.RegionWith
import Derived.Deep.CutRange
import Derived.Test.YtdhibimhohkmoaaMix
namespace Go.Proofs.Ytdhibimhohkmoaa
open Go.RowKit Go.Sort

theorem SameRanges_yes (A A' : Option Addr) (n n' c c' : Nat) (xs ys : List (Int × Int)) (w : World) (h1 : Rd w 2 A n (xs.flatMap twoV)) (h2 : Rd w 2 A' n' (ys.flatMap twoV)) (h : xs = ys) :
    Calls Try.prog 19 #[.slice A n c, .slice A' n' c'] w fun e w' => e = .returned (.bool true) ∧ ∃ k, w' = w.drewN k := by
  have := SameRanges_any A A' n n' c c' xs ys w h1 h2
  rwa [show decide (xs = ys) = true from by simp [h]] at this
/-- The rest's blocks, moved by where it begins, for a walk. -/
theorem rest_moved (bs : List UInt8) (lo hi j p : Nat) (rs : List (Nat × Nat)) (h : (blocks (bs.drop p) lo hi).map (fun s => (p + s.1, p + s.2)) = rs.drop j) :
    (((blocks (bs.drop p) lo hi).map natPair).map fun r => (r.1 + (p : Int), r.2 + (p : Int))) = (rs.map natPair).drop j := by
  rw [natPair_move, h, List.map_drop]
theorem ranges_small (bs : List UInt8) (lo hi : Nat) (h : bs.length ≤ 1000) : ∀ r ∈ (blocks bs lo hi).map natPair, -1000000 ≤ r.1 ∧ r.1 ≤ 1000000 ∧ -1000000 ≤ r.2 ∧ r.2 ≤ 1000000 := by
  intro r hr
  obtain ⟨s, hs, rfl⟩ := List.mem_map.1 hr
  have := blocks_in4 bs lo hi s hs
  simp only [natPair]
  omega

set_option maxRecDepth 100000 in
set_option maxHeartbeats 4000000 in
theorem Rest_any (A : Option Addr) (len cap : Nat) (bs : List UInt8) (x y : UInt8) (w : World) (hr : Rd w 1 A len (bs.map byteV)) (hcap : len ≤ cap) :
    Calls Try.prog 5 #[.slice A len cap, .agg #[.int .u8 (x.toNat : Int), .int .u8 (y.toNat : Int)]] w fun e w' => e = .returned (.bool true) ∧ Below w.heap.size w w' := by
  have hl := hr.le
  have hle := hr.len1
  have hlo : 4 ≤ 4 + x.toNat % 8 := by omega
  have hlh : 4 + x.toNat % 8 ≤ 4 + x.toNat % 8 + y.toNat % 16 := by omega
  have hhi : 4 + x.toNat % 8 + y.toNat % 16 ≤ 4096 := by omega
  have hM := fun W => Made_any x y W
  generalize 4 + x.toNat % 8 = lo at *
  generalize lo + y.toNat % 16 = hi at *
  go_enter Try.func5, Try.ntmps5
  go_wp2_with fail
  have cB := Blk.new w 45 #[.int .u8 (x.toNat : Int), .int .u8 (y.toNat : Int)]
  have B0 : Below w.heap.size w (w.alloc (.cells #[.int .u8 (x.toNat : Int), .int .u8 (y.toNat : Int)] 45)) := (Below.refl _ w).alloc (Nat.le_refl _) _
  refine (sanity_any _).mono ?_
  rintro e w1 ⟨rfl, hb1⟩
  have cB := cB.below hb1 (by simp)
  have B1 := B0.trans (hb1.mono (by simp))
  have hr1 := hr.below B1
  have c0 := cB.cell 0
  have c1 := cB.cell 1
  simp only [List.getElem?_toArray, List.getElem?_cons_zero, List.getElem?_cons_succ] at c0 c1
  clear cB B0 hb1 hr
  go_wp2_with fail
  refine (hM _).mono ?_
  rintro e w2 ⟨rfl, hb2⟩
  have B2 := B1.trans (hb2.mono B1.size)
  have hr2 := hr1.below hb2
  clear B1 hr1 hb2 c0 c1 hM
  by_cases hbig : 200 < len
  · go_wp2_with fail
    go_ret
    exact ⟨rfl, B2.alloc B2.size _⟩
  · go_wp2_with fail
    have cL := Blk.new w2 27 #[.int .i64 lo, .int .i64 hi]
    have hb3 : Below w2.heap.size w2 (w2.alloc (.cells #[.int .i64 lo, .int .i64 hi] 27)) := (Below.refl _ _).alloc (Nat.le_refl _) _
    have hr3 := hr2.below hb3
    have B3 := B2.trans (hb3.mono B2.size)
    clear hb3 hr2 B2
    refine (blocks_good2 A len cap lo hi bs hlo hlh hhi _ hr3 (by omega)).mono ?_
    rintro e w4 ⟨A4, n4, c4, rfl, hc4, rs4, hb4⟩
    have cL := cL.below hb4 (by simp)
    have B4 := B3.trans (hb4.mono B3.size)
    have hr4 := hr3.below hb4
    have hC := chain_length (blocks_chain bs lo hi hlh (by omega))
    have l4 := rs4.lenf twoV_len (by omega)
    rw [List.length_map] at l4
    have hn4 : n4 ≤ 200 := by omega
    have hin := Lib.hid (blocks_in4 bs lo hi)
    have hrest := Lib.hid (fun i r h hr => blocks_rest bs lo hi i r hlo h hr)
    have HL := Lib.hid hle
    have HF := Lib.hid hlh
    have HH := Lib.hid hhi
    have HO := Lib.hid hlo
    have hl2 := cL.lt
    clear hr3 hb4 B3 hC l4 hle
    go_wp2_with fail
    go_loopw [9, 10, 11] (fun i r f wr => ∃ j : Nat, j ≤ n4 ∧ i = .int .i64 j ∧ Below w4.heap.size w4 wr) (fun i _ _ _ => n4 - (intOf i).toNat)
    case atStart => exact ⟨0, Nat.zero_le _, rfl, Below.refl _ _⟩
    case round =>
      obtain ⟨j, hj, rfl, hB⟩ := hrel
      by_cases hlt : j < n4
      · have rsj := rs4.below hB
        obtain ⟨b4, off4, f4, t4, rfl, hx4, g1, g2⟩ := rsj.two_ hlt
        rw [List.getElem?_map] at hx4
        obtain ⟨r4, hr4', hy4⟩ := Option.map_eq_some_iff.1 hx4
        cases hy4
        obtain ⟨i1, i2, i3⟩ := hin.out r4 (List.mem_of_getElem? hr4')
        rw [HL.out] at i2 i3
        have hbr := hrest.out j r4 hr4' (by rw [HL.out]; omega)
        obtain ⟨p, q⟩ := r4
        dsimp only at i1 i2 i3 hbr
        replace g1 : wr.cell? ⟨b4, off4 + j * 2, none⟩ = some (.int .i64 (p : Int)) := g1
        have hrj := hr4.below hB
        obtain ⟨ba, oa, rfl, _⟩ := hrj.2.2 (by omega)
        have hrp := hrj.rest1 (i := p) (by omega)
        have hs1 := fun W => run_slice_from1 (P := Try.prog) 22 5 ba oa len cap p Try.underlying22 (by kernel_rfl) i3 hcap W
        have hs2 := fun W => run_slice_from2 (P := Try.prog) 33 48 b4 off4 n4 c4 j Try.underlying33 (by kernel_rfl) hlt hc4 W
        have cLj := cL.below hB hl2
        have c0 := cLj.cell 0
        have c1 := cLj.cell 1
        simp only [List.getElem?_toArray, List.getElem?_cons_zero, List.getElem?_cons_succ] at c0 c1
        have hrsd := rsj.rest2 (i := j) (by omega)
        have Hbr := Lib.hid hbr
        have Hg1 := Lib.hid g1
        clear hx4 hr4' hbr g2 hrj
        have hBG := fun W (hW : Below wr.heap.size wr W) => blocks_good (some ⟨ba, oa + p, none⟩) (len - p) (cap - p) lo hi (bs.drop p) HO.out HF.out HH.out W (hrp.below hW) (by omega)
        have HBG := Lib.hid hBG
        have HB := Lib.hid hB
        have Hrsd := Lib.hid hrsd
        have hsz := hB.size
        clear hBG hrp hB rsj hrsd
        go_upto_region 13 with fail
        go_cut [10, 11] from 27 to 76 (fun t10 t11 wx => ∃ (A5 : Option Addr) (n5 c5 : Nat), t10 = .slice A5 n5 c5 ∧ t11 = .int .i64 0 ∧ Rd wx 2 A5 n5 (((blocks (bs.drop p) lo hi).map natPair).flatMap twoV) ∧ Below wr.heap.size wr wx)
        case first =>
          go_region_with (go_at_call 14; refine (HBG.out _ ?_).mono ?_; first | exact Below.refl _ _ | exact (Below.refl _ _).drew; rintro e w5 ⟨A5, n5, c5, rfl, rs5, hb5⟩)
          all_goals
            go_wp2_with fail
            go_meet
            exact ⟨_, _, _, rfl, rfl, rs5, (Below.refl _ wr).drew.trans hb5⟩
        case rest =>
          obtain ⟨A5, n5, c5, rfl, rfl, rs5, hb5⟩ := hcut
          have l5 := rs5.lenf twoV_len (by omega)
          have m5 := chain_length (blocks_chain (bs.drop p) lo hi HF.out (by have := HO.out; have := HF.out; omega))
          have e5 := HL.out
          rw [List.length_map] at l5
          rw [List.length_drop] at m5
          have hRG := fun W (hW : Below wc.heap.size wc W) => Ranges_any A5 n5 c5 (p : Int) ((blocks (bs.drop p) lo hi).map natPair) W (rs5.below hW) (by omega) (by omega) (ranges_small _ _ _ (by rw [List.length_drop]; omega))
          have HRG := Lib.hid hRG
          have Hmv := Lib.hid (rest_moved bs lo hi j p _ Hbr.out)
          have g5 := (hb5.cell (World.block_lt_of_cell? wr _ Hg1.out)).trans Hg1.out
          have Hb5 := Lib.hid hb5
          have Hrsd5 := Lib.hid (Hrsd.out.below hb5)
          clear hRG rs5 hb5 c0 c1 hs1 l5 m5 e5 g1
          go_wp2_with fail
          have k5 := cell_regrown g5
          refine wp_region_mix [0, 1, 2, 3, 4, 5, 6, 7, 8, 10, 11, 12] 9 [13, 14, 15] _ rfl (by kernel_rfl) (by kernel_rfl) (fun _ _ d _ _ h => by cases d <;> exact h) (by kernel_rfl) (by kernel_rfl) (by kernel_rfl) (by kernel_rfl) (by kernel_rfl) (by kernel_rfl) ?_
          simp only [pickOps, Ext, List.getElem?_cons_zero, List.getElem?_cons_succ]
          repeat (go_big_quiet_step (fail))
          refine wpQuiet_nil ?_
          intro K hK
          go_simp
          refine (HRG.out _ (Below.refl _ _).drew).mono ?_
          rintro e w6 ⟨A6, n6, c6, rfl, rs6, hb6⟩
          have hb56 : Below wc.heap.size wc w6 := (Below.refl _ wc).drew.trans hb6
          refine hK _ _ (ext_of hb56) ?_
          clear hK K
          have hS : ∀ d os, Calls Try.prog 19 #[.slice A6 n6 c6, .slice (some ⟨b4, off4 + j * 2, none⟩) (n4 - j) (c4 - j)] (grow (redrawn w6 d) os) fun e w'' => e = .returned (.bool true) ∧ ∃ p : Regrown, w'' = grow (redrawn w6 p.d) p.os := fun d os =>
            Calls.regrown_of ((SameRanges_yes _ _ _ _ _ _ _ _ _ (rs6.below (below_regrown w6 d os)) ((Hrsd5.out.below hb56).below (below_regrown w6 d os)) Hmv.out).mono fun e w'' ⟨h1, m, h2⟩ => ⟨h1, by rw [h2]; exact below_drewN (Below.refl _ _) m⟩)
          have hb5w := Hb5.out
          clear k5 g5
          repeat (go_big_quiet_step (exact hS _ _))
          refine wpQuiet_nil ?_
          intro w7 hw7
          have hg := ext_below hw7
          clear hw7 hS
          go_wp2
          exact ⟨⟨j + 1, by omega, by go_num, Below.trans HB.out ((hb5w.trans (hb56.mono hb5w.size)).trans (hg.mono (by have := hb5w.size; have := hb56.size; omega)) |>.mono hsz)⟩, by simp [intOf]; omega⟩
      · obtain rfl : j = n4 := by omega
        go_wp2
        go_ret
        exact ⟨rfl, B4.trans (hB.mono B4.size)⟩
end Go.Proofs.Ytdhibimhohkmoaa
