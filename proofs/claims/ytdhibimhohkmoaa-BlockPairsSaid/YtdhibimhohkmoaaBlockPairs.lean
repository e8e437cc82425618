/- BlockPairs: the pairs of a match. -/
import Derived.Test.YtdhibimhohkmoaaBlockSane
import Derived.Test.YtdhibimhohkmoaaBlockLaw5
import Derived.Test.YtdhibimhohkmoaaBlockRMatch
import Derived.Deep.CutRange
namespace Go.Proofs.Ytdhibimhohkmoaa
open Go.RowKit Go.Sort

set_option maxRecDepth 100000 in
set_option maxHeartbeats 8000000 in
theorem Pairs_any (A : Option Addr) (len cap : Nat) (xa : List UInt8) (A' : Option Addr) (len' cap' : Nat) (xb : List UInt8) (x y : UInt8) (w : World) (hr : Rd w 1 A len (xa.map byteV)) (hcap : len ≤ cap) (hr' : Rd w 1 A' len' (xb.map byteV)) (hcap' : len' ≤ cap') :
    Calls Try.prog 8 #[.slice A len cap, .slice A' len' cap', .agg #[.int .u8 (x.toNat : Int), .int .u8 (y.toNat : Int)]] w fun e w' => e = .returned (.bool true) ∧ Below w.heap.size w w' := by
  have hl := hr.le
  have hl' := hr'.le
  have hlo : 4 ≤ 4 + x.toNat % 8 := by omega
  have hlh : 4 + x.toNat % 8 ≤ 4 + x.toNat % 8 + y.toNat % 16 := by omega
  have hhi : 4 + x.toNat % 8 + y.toNat % 16 ≤ 4096 := by omega
  have hM := fun W => Made_any x y W
  generalize 4 + x.toNat % 8 = lo at *
  generalize lo + y.toNat % 16 = hi at *
  go_enter Try.func8, Try.ntmps8
  go_wp2_with fail
  have cB := Blk.new w 45 #[.int .u8 (x.toNat : Int), .int .u8 (y.toNat : Int)]
  have B0 : Below w.heap.size w (w.alloc (.cells #[.int .u8 (x.toNat : Int), .int .u8 (y.toNat : Int)] 45)) := (Below.refl _ w).alloc (Nat.le_refl _) _
  refine (sanity_any _).mono ?_
  rintro e w1 ⟨rfl, hb1⟩
  have cB := cB.below hb1 (by simp)
  have B1 := B0.trans (hb1.mono (by simp))
  have c0 := cB.cell 0
  have c1 := cB.cell 1
  simp only [List.getElem?_toArray, List.getElem?_cons_zero, List.getElem?_cons_succ] at c0 c1
  clear cB B0 hb1
  go_wp2_with fail
  refine (hM _).mono ?_
  rintro e w2 ⟨rfl, hb2⟩
  have B2 := B1.trans (hb2.mono B1.size)
  clear B1 hb2 c0 c1 hM
  by_cases hbig : 200 < len ∨ 200 < len'
  · by_cases hbig1 : 200 < len
    · go_wp2_with fail
      go_ret
      exact ⟨rfl, B2.alloc B2.size _⟩
    · have hbig2 : 200 < len' := by omega
      clear hbig
      go_wp2_with fail
      go_ret
      exact ⟨rfl, B2.alloc B2.size _⟩
  have s1 : len ≤ 200 := by omega
  have s2 : len' ≤ 200 := by omega
  clear hbig
  go_wp2_with fail
  have cL := Blk.new w2 27 #[.int .i64 lo, .int .i64 hi]
  have hb3 : Below w2.heap.size w2 (w2.alloc (.cells #[.int .i64 lo, .int .i64 hi] 27)) := (Below.refl _ _).alloc (Nat.le_refl _) _
  have B3 := B2.trans (hb3.mono B2.size)
  have hr3 := hr.below B3
  have hr3' := hr'.below B3
  clear hb3 hr hr' B2
  refine (RBlocks_any A len cap lo hi xa hlo hlh hhi _ hr3 (by omega)).mono ?_
  rintro e w4 ⟨A1, n1, c1, rfl, r1, hb4⟩
  have cL := cL.below hb4 cL.lt
  have B4 := B3.trans (hb4.mono B3.size)
  have hr4 := hr3.below hb4
  have hr4' := hr3'.below hb4
  have c0 := cL.cell 0
  have c01 := cL.cell 1
  simp only [List.getElem?_toArray, List.getElem?_cons_zero, List.getElem?_cons_succ] at c0 c01
  clear hr3 hr3' hb4 B3
  go_wp2_with fail
  refine (RBlocks_any A' len' cap' lo hi xb hlo hlh hhi _ hr4' (by omega)).mono ?_
  rintro e w5 ⟨A2, n2, c2, rfl, r2, hb5⟩
  have cL := cL.below hb5 cL.lt
  have B5 := B4.trans (hb5.mono B4.size)
  have hr5 := hr4.below hb5
  have hr5' := hr4'.below hb5
  have r1 := r1.below hb5
  have c0 := cL.cell 0
  have c01 := cL.cell 1
  simp only [List.getElem?_toArray, List.getElem?_cons_zero, List.getElem?_cons_succ] at c0 c01
  clear hr4 hr4' hb5 B4
  go_wp2_with fail
  refine (callsIn_wide.1 (Match_in 3 (by omega) A A' len len' cap cap' lo hi xa xb hlo hlh hhi _ hr5 hr5' hcap hcap' (by omega) (by omega))).mono ?_
  rintro e w6 ⟨A3, n3, c3, rfl, r3, hb6⟩
  have cL := cL.below hb6 cL.lt
  have B6 := B5.trans (hb6.mono B5.size)
  have hr6 := hr5.below hb6
  have hr6' := hr5'.below hb6
  have r1 := r1.below hb6
  have r2 := r2.below hb6
  have c0 := cL.cell 0
  have c01 := cL.cell 1
  simp only [List.getElem?_toArray, List.getElem?_cons_zero, List.getElem?_cons_succ] at c0 c01
  clear hr5 hr5' hb6 B5
  go_wp2_with fail
  refine (callsIn_wide.1 (Match_in 3 (by omega) A A len len cap cap lo hi xa xa hlo hlh hhi _ hr6 hr6 hcap hcap (by omega) (by omega))).mono ?_
  rintro e w7 ⟨A4, n4, c4, rfl, r4, hb7⟩
  have B7 := B6.trans (hb7.mono B6.size)
  have hr7 := hr6.below hb7
  have hr7' := hr6'.below hb7
  have r1 := r1.below hb7
  have r2 := r2.below hb7
  have r3 := r3.below hb7
  clear hr6 hr6' hb7 B6 c0 c01 cL
  -- the lists
  have m1 := chain_length (blocks_chain xa lo hi hlh (by omega))
  have m2 := chain_length (blocks_chain xb lo hi hlh (by omega))
  have e1 := hr7.len1
  have e2 := hr7'.len1
  have l1 := r1.lenf twoV_len (by omega)
  have l2 := r2.lenf twoV_len (by omega)
  have l3 := r3.lenf twoV_len (by omega)
  have l4 := r4.lenf twoV_len (by omega)
  have q1 := blocks_in xa lo hi
  have q2 := blocks_in xb lo hi
  unfold matchB at r3 r4 l3 l4
  generalize blocks xa lo hi = rs at *
  generalize blocks xb lo hi = ss at *
  have ql := mres_length (rs.map (piece xa)) (ss.map (piece xb))
  have qs := mres_self_length (rs.map (piece xa))
  simp only [List.length_map] at l1 l2 l3 l4 ql qs
  have hn1 : n1 ≤ 200 := by omega
  have hn2 : n2 ≤ 200 := by omega
  have hn3 : n3 ≤ n2 := by omega
  have hn4 : n1 = n4 := by omega
  subst hn4
  have L1 := Lib.hid l1
  have L2 := Lib.hid l2
  have L3 := Lib.hid l3
  have Q1 := Lib.hid q1
  have Q2 := Lib.hid q2
  have E1 := Lib.hid e1
  have E2 := Lib.hid e2
  clear m1 m2 e1 e2 l1 l2 l3 l4 ql qs q1 q2 hlo hlh hhi
  have HS := Lib.hid (mres_self_at (rs.map (piece xa)))
  have HT := Lib.hid (tAt_hit (rs.map (piece xa)) (ss.map (piece xb)))
  have HN := Lib.hid (tAt_miss (rs.map (piece xa)) (ss.map (piece xb)))
  have HE := Lib.hid (tAt_le (rs.map (piece xa)) (ss.map (piece xb)))
  have H0 := tAt_zero (rs.map (piece xa)) (ss.map (piece xb))
  have HL := tAt_last (rs.map (piece xa)) (ss.map (piece xb))
  rw [List.length_map, L2.out, L3.out] at HL
  generalize tAt (rs.map (piece xa)) (ss.map (piece xb)) = T at *
  have H0 := Lib.hid H0
  have HL := Lib.hid HL
  go_wp2_with fail
  go_loopw [17, 18, 19, 20] (fun t k p i wr => ∃ kk : Nat, kk ≤ n2 ∧ t = .int .i64 (T kk : Nat) ∧ k = .int .i64 kk ∧ Below w7.heap.size w7 wr) (fun _ k _ _ _ => n2 - (intOf k).toNat)
  case atStart => exact ⟨0, Nat.zero_le _, by rw [H0.out]; rfl, rfl, Below.refl _ _⟩
  case round =>
    obtain ⟨k, hk, rfl, rfl, hB⟩ := hrel
    by_cases hlt : k < n2
    · obtain ⟨b2, o2, p2, q2, rfl, hx2, g2, g2'⟩ := (r2.below hB).two_ hlt
      rw [List.getElem?_map] at hx2
      obtain ⟨s, hs, hy2⟩ := Option.map_eq_some_iff.1 hx2
      cases hy2
      have hks : (ss.map (piece xb))[k]? = some (piece xb s) := by rw [List.getElem?_map, hs]; rfl
      have htk := HE.out k (by rw [List.length_map, L2.out]; omega)
      rw [L3.out] at htk
      obtain ⟨u1, u2, u3⟩ := Q2.out s (List.mem_of_getElem? hs)
      rw [E2.out] at u2 u3
      obtain ⟨t, ht⟩ : ∃ t, T k = t := ⟨_, rfl⟩
      by_cases hit : piece xb s ∈ rs.map (piece xa)
      · obtain ⟨ha, hb⟩ := HT.out k _ hks hit
        have hidx := idxOf_at' hit
        have hbefore := @not_before_idxOf (rs.map (piece xa)) (piece xb s)
        generalize (rs.map (piece xa)).idxOf (piece xb s) = idx at *
        rw [List.getElem?_map] at hidx
        obtain ⟨r, hr0, hpe⟩ := Option.map_eq_some_iff.1 hidx
        have hidx1 : idx < n1 := by rw [← L1.out]; exact (List.getElem?_eq_some_iff.1 hr0).1
        obtain ⟨v1, v2, v3⟩ := Q1.out r (List.mem_of_getElem? hr0)
        rw [E1.out] at v2 v3
        rw [ht] at ha hb htk
        rw [ht]
        have htlt : t < n3 := by rw [← L3.out]; exact (List.getElem?_eq_some_iff.1 ha).1
        obtain ⟨b3, o3, x3, y3, rfl, hx3, g3, g3'⟩ := (r3.below hB).two_ htlt
        rw [List.getElem?_map, ha] at hx3
        cases hx3
        obtain ⟨b1, o1, x1, y1, rfl, hx1, g1, g1'⟩ := (r1.below hB).two_ hidx1
        rw [List.getElem?_map, hr0] at hx1
        cases hx1
        have hra := hr7.below hB
        have hrb := hr7'.below hB
        obtain ⟨ea, fa, rfl, _⟩ := hra.2.2 (by omega)
        obtain ⟨eb, fb, rfl, _⟩ := hrb.2.2 (by omega)
        replace g3 : wr.cell? ⟨b3, o3 + t * 2, none⟩ = some (.int .i64 (idx : Int)) := g3
        replace g3' : wr.cell? ⟨b3, o3 + t * 2 + 1, none⟩ = some (.int .i64 (k : Int)) := g3'
        have k2 := cell_regrown (show wr.cell? ⟨b2, o2 + k * 2, none⟩ = some (.int .i64 (s.1 : Int)) from g2)
        have k2' := cell_regrown (show wr.cell? ⟨b2, o2 + k * 2 + 1, none⟩ = some (.int .i64 (s.2 : Int)) from g2')
        have k1 := cell_regrown (show wr.cell? ⟨b1, o1 + idx * 2, none⟩ = some (.int .i64 (r.1 : Int)) from g1)
        have k1' := cell_regrown (show wr.cell? ⟨b1, o1 + idx * 2 + 1, none⟩ = some (.int .i64 (r.2 : Int)) from g1')
        have k3 := cell_regrown g3
        have k3' := cell_regrown g3'
        have hP1 : ∀ d os, Calls Try.prog 24 #[.slice (some ⟨ea, fa, none⟩) len cap, .agg #[.int .i64 (r.1 : Int), .int .i64 (r.2 : Int)]] (grow (redrawn wr d) os) fun e w'' => e = .returned (.slice (some ⟨ea, fa + r.1, none⟩) (r.2 - r.1) (cap - r.1)) ∧ ∃ p : Regrown, w'' = grow (redrawn wr p.d) p.os := fun d os => Calls.regrown_of (Piece_any ea fa len cap r.1 r.2 v1 v2 hcap v3 _)
        have hP2 : ∀ d os, Calls Try.prog 24 #[.slice (some ⟨eb, fb, none⟩) len' cap', .agg #[.int .i64 (s.1 : Int), .int .i64 (s.2 : Int)]] (grow (redrawn wr d) os) fun e w'' => e = .returned (.slice (some ⟨eb, fb + s.1, none⟩) (s.2 - s.1) (cap' - s.1)) ∧ ∃ p : Regrown, w'' = grow (redrawn wr p.d) p.os := fun d os => Calls.regrown_of (Piece_any eb fb len' cap' s.1 s.2 u1 u2 hcap' u3 _)
        have hS : ∀ d os, Calls Try.prog 23 #[.slice (some ⟨ea, fa + r.1, none⟩) (r.2 - r.1) (cap - r.1), .slice (some ⟨eb, fb + s.1, none⟩) (s.2 - s.1) (cap' - s.1)] (grow (redrawn wr d) os) fun e w'' => e = .returned (.bool (decide (piece xa r = piece xb s))) ∧ ∃ p : Regrown, w'' = grow (redrawn wr p.d) p.os := fun d os =>
          Calls.regrown_of ((Same_any _ _ _ _ _ _ (piece xa r) (piece xb s) _ ((hra.part v1 v2).below (below_regrown wr d os)) ((hrb.part u1 u2).below (below_regrown wr d os))).mono fun e w'' ⟨h1, m, h2⟩ => ⟨h1, by rw [h2]; exact below_drewN (Below.refl _ _) m⟩)
        rw [show decide (piece xa r = piece xb s) = true from by simpa using hpe] at hS
        have t1 : decide ((idx : Int) < 0) = false := by simp
        have t2 : decide ((n1 : Int) ≤ (idx : Int)) = false := by simp; omega
        have t3 : decide (n1 ≤ idx) = false := by simp; omega
        have Hs := Lib.hid hs
        have Ha := Lib.hid ha
        have Hb := Lib.hid hb
        have Hbefore := Lib.hid (fun (i : Nat) (t : List UInt8) (h1 : i < idx) (h2 : (rs.map (piece xa))[i]? = some t) => hbefore h1 h2)
        clear hit hidx hr0 hpe ha hb hbefore hks hs hx2 g1 g1' g2 g2' ht
        go_wp2_with fail
        refine wp_region_quiet_below (by kernel_rfl) (by kernel_rfl) ?_
        repeat (go_big_quiet_step (first | exact hP1 _ _ | exact hP2 _ _ | exact hS _ _))
        refine wpQuiet_nil ?_
        intro wq hw'
        obtain ⟨⟨dq, osq⟩, hw''⟩ := hw'
        have hg := below_regrown wr dq osq
        rw [← hw''] at hg
        clear hw'' hP1 hP2 hS k1 k1' k2 k2' k3 k3' t1 t2 t3 g3 g3'
        have hBq := hB.trans (hg.mono hB.size)
        clear hB hg hra hrb v1 v2 v3
        go_wp2_with fail
        obtain ⟨wo, hwo⟩ : ∃ wo, wo = wq := ⟨_, rfl⟩
        subst hwo
        go_loopw [20] (fun i wx => ∃ ii : Nat, ii ≤ n1 ∧ i = .int .i64 ii ∧ Below w7.heap.size w7 wx) (fun i _ => n1 - (intOf i).toNat)
        case atStart => exact ⟨0, Nat.zero_le _, rfl, hBq⟩
        case round =>
          obtain ⟨i, hi, rfl, hB⟩ := hrel
          by_cases hlti : i < n1
          · obtain ⟨b1, o1, x1, y1, hA1, hx1, g1, g1'⟩ := (r1.below hB).two_ hlti
            first | subst hA1 | cases hA1
            rw [List.getElem?_map] at hx1
            obtain ⟨r, hr0, hy1⟩ := Option.map_eq_some_iff.1 hx1
            cases hy1
            have hpi : (rs.map (piece xa))[i]? = some (piece xa r) := by rw [List.getElem?_map, hr0]; rfl
            obtain ⟨v1, v2, v3⟩ := Q1.out r (List.mem_of_getElem? hr0)
            rw [E1.out] at v2 v3
            have hra := hr7.below hB
            have hrb := hr7'.below hB
            obtain ⟨_, _, x2, y2, hA2, hx2, g2, g2'⟩ := (r2.below hB).two_ hlt
            cases hA2
            rw [List.getElem?_map, Hs.out] at hx2
            cases hx2
            have k2 := cell_regrown (show wr.cell? ⟨b2, o2 + k * 2, none⟩ = some (.int .i64 (s.1 : Int)) from g2)
            have k2' := cell_regrown (show wr.cell? ⟨b2, o2 + k * 2 + 1, none⟩ = some (.int .i64 (s.2 : Int)) from g2')
            have k1 := cell_regrown (show wr.cell? ⟨b1, o1 + i * 2, none⟩ = some (.int .i64 (r.1 : Int)) from g1)
            have k1' := cell_regrown (show wr.cell? ⟨b1, o1 + i * 2 + 1, none⟩ = some (.int .i64 (r.2 : Int)) from g1')
            obtain ⟨_, _, x3, y3, hA3, hx3, g3, g3'⟩ := (r3.below hB).two_ htlt
            cases hA3
            rw [List.getElem?_map, Ha.out] at hx3
            cases hx3
            have k3 := cell_regrown (show wr.cell? ⟨b3, o3 + t * 2, none⟩ = some (.int .i64 (idx : Int)) from g3)
            by_cases hbe : i < idx
            · have hne := Hbefore.out i _ hbe hpi
              have hP1 : ∀ d os, Calls Try.prog 24 #[.slice (some ⟨ea, fa, none⟩) len cap, .agg #[.int .i64 (r.1 : Int), .int .i64 (r.2 : Int)]] (grow (redrawn wr d) os) fun e w'' => e = .returned (.slice (some ⟨ea, fa + r.1, none⟩) (r.2 - r.1) (cap - r.1)) ∧ ∃ p : Regrown, w'' = grow (redrawn wr p.d) p.os := fun d os => Calls.regrown_of (Piece_any ea fa len cap r.1 r.2 v1 v2 hcap v3 _)
              have hP2 : ∀ d os, Calls Try.prog 24 #[.slice (some ⟨eb, fb, none⟩) len' cap', .agg #[.int .i64 (s.1 : Int), .int .i64 (s.2 : Int)]] (grow (redrawn wr d) os) fun e w'' => e = .returned (.slice (some ⟨eb, fb + s.1, none⟩) (s.2 - s.1) (cap' - s.1)) ∧ ∃ p : Regrown, w'' = grow (redrawn wr p.d) p.os := fun d os => Calls.regrown_of (Piece_any eb fb len' cap' s.1 s.2 u1 u2 hcap' u3 _)
              have hS : ∀ d os, Calls Try.prog 23 #[.slice (some ⟨ea, fa + r.1, none⟩) (r.2 - r.1) (cap - r.1), .slice (some ⟨eb, fb + s.1, none⟩) (s.2 - s.1) (cap' - s.1)] (grow (redrawn wr d) os) fun e w'' => e = .returned (.bool (decide (piece xa r = piece xb s))) ∧ ∃ p : Regrown, w'' = grow (redrawn wr p.d) p.os := fun d os =>
                Calls.regrown_of ((Same_any _ _ _ _ _ _ (piece xa r) (piece xb s) _ ((hra.part v1 v2).below (below_regrown wr d os)) ((hrb.part u1 u2).below (below_regrown wr d os))).mono fun e w'' ⟨h1, m, h2⟩ => ⟨h1, by rw [h2]; exact below_drewN (Below.refl _ _) m⟩)
              rw [show decide (piece xa r = piece xb s) = false from by simpa using hne] at hS
              have t1 : decide ((i : Int) < (idx : Int)) = true := by simp; omega
              have t2 : decide (i < idx) = true := by simp; omega
              have Hpi := Lib.hid hpi
              clear g1 g1' g2 g2' g3 g3' hx1 hr0 hpi hne hra hrb
              go_wp2
              refine wp_region_quiet_below (by kernel_rfl) (by kernel_rfl) ?_
              repeat (go_big_quiet_step (first | exact hP1 _ _ | exact hP2 _ _ | exact hS _ _))
              refine wpQuiet_nil ?_
              intro wq hw'
              obtain ⟨⟨dq, osq⟩, hw''⟩ := hw'
              have hg := below_regrown wr dq osq
              rw [← hw''] at hg
              clear hw'' hP1 hP2 hS k1 k1' k2 k2' k3 t1 t2
              go_wp2
              have hB2 := hB.trans (hg.mono hB.size)
              exact ⟨⟨i + 1, by omega, by go_num, hB2⟩, by simp [intOf]; omega⟩
            · have t1 : decide ((i : Int) < (idx : Int)) = false := by simp; omega
              have t2 : decide (i < idx) = false := by simp; omega
              have hP1 : True := trivial
              have hP2 : True := trivial
              have hS : True := trivial
              clear g1 g1' g2 g2' g3 g3' hx1 hr0 hpi hra hrb
              go_wp2
              refine wp_region_quiet_below (by kernel_rfl) (by kernel_rfl) ?_
              repeat (go_big_quiet_step (fail))
              refine wpQuiet_nil ?_
              intro wq hw'
              obtain ⟨⟨dq, osq⟩, hw''⟩ := hw'
              have hg := below_regrown wr dq osq
              rw [← hw''] at hg
              clear hw'' k1 k1' k2 k2' k3 t1 t2
              go_wp2
              have hB2 := hB.trans (hg.mono hB.size)
              exact ⟨⟨i + 1, by omega, by go_num, hB2⟩, by simp [intOf]; omega⟩
          · obtain rfl : i = n1 := by omega
            go_wp2
            exact ⟨⟨k + 1, by omega, by rw [Hb.out]; go_num, by go_num, hB⟩, by simp [intOf]; omega⟩
      · obtain ⟨ha, hb⟩ := HN.out k _ hks hit
        rw [ht] at ha hb htk
        rw [ht]
        have Hs := Lib.hid hs
        have Hb := Lib.hid hb
        have Hit := Lib.hid hit
        clear hit hks hs hx2 hb ht
        go_upto_region 15 with fail
        go_cut [19] from 86 to 178 (fun t19 wx => t19 = .bool false ∧ wx = wr)
        case first =>
          by_cases htlt : t < n3
          · obtain ⟨b3, o3, x3, y3, hA3, hx3, g3, g3'⟩ := (r3.below hB).two_ htlt
            subst hA3
            rw [List.getElem?_map] at hx3
            obtain ⟨m3, hm3, hy3⟩ := Option.map_eq_some_iff.1 hx3
            cases hy3
            have hne := ha m3 hm3
            have hbq : (((m3.2 : Nat) : Int) == (k : Int)) = false := by simp; omega
            replace g3' : wr.cell? ⟨b3, o3 + t * 2 + 1, none⟩ = some (.int .i64 (m3.2 : Int)) := g3'
            clear ha hx3 hm3 hne g3 g2 g2'
            go_wp2_with fail
            go_meet
            exact ⟨rfl, rfl⟩
          · clear ha g2 g2'
            go_wp2_with fail
            go_meet
            exact ⟨rfl, rfl⟩
        case rest =>
          obtain ⟨rfl, rfl⟩ := hcut
          clear ha g2 g2'
          go_wp2_with fail
          go_quiet (fail)
          have hBq := below_drewN hB nq
          clear hB
          generalize wc.drewN nq = wq at *
          go_wp2_with fail
          obtain ⟨wo, hwo⟩ : ∃ wo, wo = wq := ⟨_, rfl⟩
          subst hwo
          go_loopw [20] (fun i wx => ∃ ii : Nat, ii ≤ n1 ∧ i = .int .i64 ii ∧ Below w7.heap.size w7 wx) (fun i _ => n1 - (intOf i).toNat)
          case atStart => exact ⟨0, Nat.zero_le _, rfl, hBq⟩
          case round =>
            obtain ⟨i, hi, rfl, hB⟩ := hrel
            by_cases hlti : i < n1
            · obtain ⟨b1, o1, x1, y1, hA1, hx1, g1, g1'⟩ := (r1.below hB).two_ hlti
              first | subst hA1 | cases hA1
              rw [List.getElem?_map] at hx1
              obtain ⟨r, hr0, hy1⟩ := Option.map_eq_some_iff.1 hx1
              cases hy1
              have hpi : (rs.map (piece xa))[i]? = some (piece xa r) := by rw [List.getElem?_map, hr0]; rfl
              obtain ⟨v1, v2, v3⟩ := Q1.out r (List.mem_of_getElem? hr0)
              rw [E1.out] at v2 v3
              have hra := hr7.below hB
              have hrb := hr7'.below hB
              obtain ⟨_, _, x2, y2, hA2, hx2, g2, g2'⟩ := (r2.below hB).two_ hlt
              cases hA2
              rw [List.getElem?_map, Hs.out] at hx2
              cases hx2
              obtain ⟨ea, fa, rfl, _⟩ := hra.2.2 (by omega)
              obtain ⟨eb, fb, rfl, _⟩ := hrb.2.2 (by omega)
              have k2 := cell_regrown (show wr.cell? ⟨b2, o2 + k * 2, none⟩ = some (.int .i64 (s.1 : Int)) from g2)
              have k2' := cell_regrown (show wr.cell? ⟨b2, o2 + k * 2 + 1, none⟩ = some (.int .i64 (s.2 : Int)) from g2')
              have k1 := cell_regrown (show wr.cell? ⟨b1, o1 + i * 2, none⟩ = some (.int .i64 (r.1 : Int)) from g1)
              have k1' := cell_regrown (show wr.cell? ⟨b1, o1 + i * 2 + 1, none⟩ = some (.int .i64 (r.2 : Int)) from g1')
              have hne : ¬ piece xa r = piece xb s := fun e => Hit.out (by rw [← e]; exact List.mem_of_getElem? hpi)
              have hP1 : ∀ d os, Calls Try.prog 24 #[.slice (some ⟨ea, fa, none⟩) len cap, .agg #[.int .i64 (r.1 : Int), .int .i64 (r.2 : Int)]] (grow (redrawn wr d) os) fun e w'' => e = .returned (.slice (some ⟨ea, fa + r.1, none⟩) (r.2 - r.1) (cap - r.1)) ∧ ∃ p : Regrown, w'' = grow (redrawn wr p.d) p.os := fun d os => Calls.regrown_of (Piece_any ea fa len cap r.1 r.2 v1 v2 hcap v3 _)
              have hP2 : ∀ d os, Calls Try.prog 24 #[.slice (some ⟨eb, fb, none⟩) len' cap', .agg #[.int .i64 (s.1 : Int), .int .i64 (s.2 : Int)]] (grow (redrawn wr d) os) fun e w'' => e = .returned (.slice (some ⟨eb, fb + s.1, none⟩) (s.2 - s.1) (cap' - s.1)) ∧ ∃ p : Regrown, w'' = grow (redrawn wr p.d) p.os := fun d os => Calls.regrown_of (Piece_any eb fb len' cap' s.1 s.2 u1 u2 hcap' u3 _)
              have hS : ∀ d os, Calls Try.prog 23 #[.slice (some ⟨ea, fa + r.1, none⟩) (r.2 - r.1) (cap - r.1), .slice (some ⟨eb, fb + s.1, none⟩) (s.2 - s.1) (cap' - s.1)] (grow (redrawn wr d) os) fun e w'' => e = .returned (.bool (decide (piece xa r = piece xb s))) ∧ ∃ p : Regrown, w'' = grow (redrawn wr p.d) p.os := fun d os =>
                Calls.regrown_of ((Same_any _ _ _ _ _ _ (piece xa r) (piece xb s) _ ((hra.part v1 v2).below (below_regrown wr d os)) ((hrb.part u1 u2).below (below_regrown wr d os))).mono fun e w'' ⟨h1, m, h2⟩ => ⟨h1, by rw [h2]; exact below_drewN (Below.refl _ _) m⟩)
              rw [show decide (piece xa r = piece xb s) = false from by simpa using hne] at hS
              clear g1 g1' g2 g2' hx1 hr0 hpi hne hra hrb
              go_wp2
              refine wp_region_quiet_below (by kernel_rfl) (by kernel_rfl) ?_
              repeat (go_big_quiet_step (first | exact hP1 _ _ | exact hP2 _ _ | exact hS _ _))
              refine wpQuiet_nil ?_
              intro wq hw'
              obtain ⟨⟨dq, osq⟩, hw''⟩ := hw'
              have hg := below_regrown wr dq osq
              rw [← hw''] at hg
              clear hw'' hP1 hP2 hS k1 k1' k2 k2'
              go_wp2
              have hB2 := hB.trans (hg.mono hB.size)
              exact ⟨⟨i + 1, by omega, by go_num, hB2⟩, by simp [intOf]; omega⟩
            · obtain rfl : i = n1 := by omega
              go_wp2
              exact ⟨⟨k + 1, by omega, by rw [Hb.out], by go_num, hB⟩, by simp [intOf]; omega⟩
    · obtain rfl : k = n2 := by omega
      rw [HL.out]
      go_wp2
      obtain ⟨wo, hwo⟩ : ∃ wo, wo = wr := ⟨_, rfl⟩
      subst hwo
      go_loopw [21] (fun i wx => ∃ ii : Nat, ii ≤ n1 ∧ i = .int .i64 ii ∧ wx = wo) (fun i _ => n1 - (intOf i).toNat)
      case atStart => exact ⟨0, Nat.zero_le _, rfl, rfl⟩
      case round =>
        obtain ⟨i, hi, rfl, rfl⟩ := hrel
        by_cases hlti : i < n1
        · obtain ⟨b4, o4, x4, y4, rfl, hx4, g4, g4'⟩ := (r4.below hB).two_ hlti
          obtain ⟨p4, hp4, hp4'⟩ := HS.out i (by rw [List.length_map, L1.out]; exact hlti)
          rw [List.getElem?_map, hp4] at hx4
          cases hx4
          replace g4 : wr.cell? ⟨b4, o4 + i * 2, none⟩ = some (.int .i64 (p4 : Int)) := g4
          replace g4' : wr.cell? ⟨b4, o4 + i * 2 + 1, none⟩ = some (.int .i64 (i : Int)) := g4'
          clear hp4
          go_wp2
          exact ⟨⟨i + 1, by omega, by go_num, trivial⟩, by simp [intOf]; omega⟩
        · obtain rfl : i = n1 := by omega
          go_wp2
          go_ret
          exact ⟨rfl, B7.trans (hB.mono B7.size)⟩
end Go.Proofs.Ytdhibimhohkmoaa
