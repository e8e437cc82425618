/- The reference's Match pairs the blocks of two texts. -/
import Derived.Test.YtdhibimhohkmoaaBlockRef3
import Derived.Test.YtdhibimhohkmoaaBlockEq
import Derived.Test.YtdhibimhohkmoaaBlockMatch
import Derived.Test.YtdhibimhohkmoaaBlockLaw
import Derived.BigQuiet
namespace Go.Proofs.Ytdhibimhohkmoaa
open Go.RowKit Go.Sort

theorem idxOf_at {ka : List (List UInt8)} {s : List UInt8} {i : Nat} (h : ka[i]? = some s) (hn : s ∉ ka.take i) : s ∈ ka ∧ ka.idxOf s = i := by
  have hi := (List.getElem?_eq_some_iff.1 h).1
  refine ⟨List.mem_of_getElem? h, ?_⟩
  have e : ka = ka.take i ++ s :: ka.drop (i + 1) := by
    have := List.drop_eq_getElem_cons hi
    rw [(List.getElem?_eq_some_iff.1 h).2] at this
    rw [← this, List.take_append_drop]
  rw [e, List.idxOf_append, if_neg hn]
  simp
  omega
theorem take_snoc_not {ka : List (List UInt8)} {s t : List UInt8} {i : Nat} (h : ka[i]? = some t) (hn : s ∉ ka.take i) (ht : t ≠ s) : s ∉ ka.take (i + 1) := by
  rw [List.take_add_one, h]
  simp only [Option.toList_some, List.mem_append, List.mem_singleton]
  rintro (h | h)
  · exact hn h
  · exact ht h.symm

set_option maxRecDepth 100000 in
set_option maxHeartbeats 4000000 in
theorem RMatch_of (A A' : Option Addr) (len len' cap cap' : Nat) (a b err err' : Int) (xa xb : List UInt8) (rs ss : List (Nat × Nat)) (w : World)
    (hr : Rd w 1 A len (xa.map byteV)) (hr' : Rd w 1 A' len' (xb.map byteV)) (hcap : len ≤ cap) (hcap' : len' ≤ cap')
    (hrs : ∀ r ∈ rs, r.1 ≤ r.2 ∧ r.2 ≤ len ∧ r.1 < len) (hss : ∀ r ∈ ss, r.1 ≤ r.2 ∧ r.2 ≤ len' ∧ r.1 < len') (hn : rs.length ≤ 8796093022208) (hn' : ss.length ≤ 8796093022208)
    (hc : ∀ W, Below w.heap.size w W → Calls Try.prog 15 #[.slice A len cap, .agg #[.int .i64 a, .int .i64 b]] W fun e W' => ∃ A' n' c', e = .returned (.tuple #[.slice A' n' c', .int .i64 err]) ∧
      Rd W' 2 A' n' ((rs.map natPair).flatMap twoV) ∧ Below W.heap.size W W')
    (hc' : ∀ W, Below w.heap.size w W → Calls Try.prog 15 #[.slice A' len' cap', .agg #[.int .i64 a, .int .i64 b]] W fun e W' => ∃ A' n' c', e = .returned (.tuple #[.slice A' n' c', .int .i64 err']) ∧
      Rd W' 2 A' n' ((ss.map natPair).flatMap twoV) ∧ Below W.heap.size W W') :
    Calls Try.prog 17 #[.agg #[.slice A len cap, .slice A' len' cap'], .agg #[.int .i64 a, .int .i64 b]] w fun e W' => ∃ A'' n'' c'', e = .returned (.tuple #[.slice A'' n'' c'', .int .i64 err]) ∧
      Rd W' 2 A'' n'' (((mres (rs.map (piece xa)) (ss.map (piece xb))).map natPair).flatMap twoV) ∧ Below w.heap.size w W' := by
  obtain ⟨i0, hi0, hz0, hz1, hz2⟩ := info_parts info26
  have HC := Lib.hid hc
  have HC' := Lib.hid hc'
  have HRS := Lib.hid hrs
  have HSS := Lib.hid hss
  clear hc hc' hrs hss
  go_enter Try.func17, Try.ntmps17
  go_wp2_with fail
  have b0 := (Blk.new w 40 #[.slice A len cap, .slice A' len' cap']).alloc (.cells #[.int .i64 a, .int .i64 b] 27)
  have b1 := Blk.new (w.alloc (.cells #[.slice A len cap, .slice A' len' cap'] 40)) 27 #[.int .i64 a, .int .i64 b]
  have B0 : Below w.heap.size w ((w.alloc (.cells #[.slice A len cap, .slice A' len' cap'] 40)).alloc (.cells #[.int .i64 a, .int .i64 b] 27)) := ((Below.refl _ w).alloc (Nat.le_refl _) _).alloc (by simp) _
  refine (HC.out _ B0).mono ?_
  rintro e w1 ⟨A1, n1, c1, rfl, r1, hb1⟩
  have b0 := b0.below hb1 b0.lt
  have b1 := b1.below hb1 b1.lt
  have B1 := B0.trans (hb1.mono B0.size)
  have c00 := b0.cell 0
  have c01 := b0.cell 1
  have c10 := b1.cell 0
  have c11 := b1.cell 1
  simp only [List.getElem?_toArray, List.getElem?_cons_zero, List.getElem?_cons_succ, World.size_alloc] at c00 c01 c10 c11
  clear B0 hb1
  go_wp2_with fail
  refine (HC'.out _ B1).mono ?_
  rintro e w2 ⟨A2, n2, c2, rfl, r2, hb2⟩
  have b0 := b0.below hb2 b0.lt
  have B2 := B1.trans (hb2.mono B1.size)
  have r1 := r1.below hb2
  have l1 := r1.lenf twoV_len (by omega)
  have l2 := r2.lenf twoV_len (by omega)
  rw [List.length_map] at l1 l2
  subst l1 l2
  have hr := hr.below B2
  have hr' := hr'.below B2
  have hown := ownsRow_empty (w := w2) (base := w2.heap.size) 26 2 (Nat.le_refl _)
  have hl0 := b0.lt
  clear B1 hb2 c00 c01 c10 c11 b1
  go_wp2
  go_loopw [10, 11, 12] (fun v k i wr => ∃ kk : Nat, kk ≤ ss.length ∧ k = .int .i64 kk ∧ Below w2.heap.size w2 wr ∧
    wr.ownsRow w2.heap.size 26 2 v (mres (rs.map (piece xa)) ((ss.map (piece xb)).take kk)).length (((mres (rs.map (piece xa)) ((ss.map (piece xb)).take kk)).map natPair).flatMap twoV)) (fun _ k _ _ => ss.length - (intOf k).toNat)
  case atStart => exact ⟨0, by omega, rfl, (Below.refl _ _).alloc (Nat.le_refl _) _, by simpa [mres] using hown⟩
  case round =>
    obtain ⟨k, hk, rfl, hB, hrow⟩ := hrel
    by_cases hlt : k < ss.length
    · obtain ⟨s, hs⟩ : ∃ s, ss[k]? = some s := ⟨ss[k], List.getElem?_eq_getElem hlt⟩
      have hsk : (ss.map (piece xb))[k]? = some (piece xb s) := by rw [List.getElem?_map, hs]; rfl
      have htk : (ss.map (piece xb)).take (k + 1) = (ss.map (piece xb)).take k ++ [piece xb s] := by rw [List.take_add_one, hsk]; rfl
      have hlk : ((ss.map (piece xb)).take k).length = k := by simp; omega
      have hml := mres_length (rs.map (piece xa)) ((ss.map (piece xb)).take k)
      rw [hlk] at hml
      have Htk := Lib.hid htk
      have Hs := Lib.hid hs
      have Hlk := Lib.hid hlk
      clear htk hs hlk hsk
      generalize hM : mres (rs.map (piece xa)) ((ss.map (piece xb)).take k) = M at *
      have HM := Lib.hid hM
      clear hM
      go_wp2
      obtain ⟨wo, rfl⟩ : ∃ wo, wo = wr := ⟨_, rfl⟩
      go_loopw [10, 12] (fun v' i wr' => ∃ ii : Nat, ii ≤ rs.length ∧ i = .int .i64 ii ∧ v' = u10 ∧ Below wo.heap.size wo wr' ∧ RowKit.Hid (piece xb s ∉ (rs.map (piece xa)).take ii)) (fun _ i _ => rs.length - (intOf i).toNat)
      case atStart => exact ⟨0, by omega, rfl, rfl, Below.refl _ _, Lib.hid (by simp)⟩
      case round =>
        obtain ⟨i, hi, rfl, rfl, hB', Hni⟩ := hrel
        have hB2 := hB.trans (hB'.mono hB.size)
        have hsz2 := hB2.size
        have hrow' := own_below hrow hB'
        by_cases hlti : i < rs.length
        · obtain ⟨ba, oa, x, y, rfl, hx, cx, cy⟩ := (r1.below hB2).two_ hlti
          obtain ⟨bb, ob, x', y', rfl, hx', cx', cy'⟩ := (r2.below hB2).two_ hlt
          rw [List.getElem?_map] at hx hx'
          obtain ⟨r, hri, hxy⟩ := Option.map_eq_some_iff.1 hx
          cases hxy
          rw [Hs.out] at hx'
          cases hx'
          have hri2 : (rs.map (piece xa))[i]? = some (piece xa r) := by rw [List.getElem?_map, hri]; rfl
          obtain ⟨p1, p2, p3⟩ := HRS.out r (List.mem_of_getElem? hri)
          obtain ⟨p1', p2', p3'⟩ := HSS.out s (List.mem_of_getElem? Hs.out)
          have b0' := b0.below hB2 hl0
          have c00 := b0'.cell 0
          have c01 := b0'.cell 1
          simp only [List.getElem?_toArray, List.getElem?_cons_zero, List.getElem?_cons_succ] at c00 c01
          have hr2 := hr.below hB2
          have hr2' := hr'.below hB2
          obtain ⟨ea, fa, rfl, _⟩ := hr2.2.2 (by omega)
          obtain ⟨eb, fb, rfl, _⟩ := hr2'.2.2 (by omega)
          have k00 := cell_regrown c00
          have k01 := cell_regrown c01
          have kx := cell_regrown (show wr.cell? ⟨ba, oa + i * 2, none⟩ = some (.int .i64 (r.1 : Int)) from cx)
          have ky := cell_regrown (show wr.cell? ⟨ba, oa + i * 2 + 1, none⟩ = some (.int .i64 (r.2 : Int)) from cy)
          have kx' := cell_regrown (show wr.cell? ⟨bb, ob + k * 2, none⟩ = some (.int .i64 (s.1 : Int)) from cx')
          have ky' := cell_regrown (show wr.cell? ⟨bb, ob + k * 2 + 1, none⟩ = some (.int .i64 (s.2 : Int)) from cy')
          have hP1 : ∀ d os, Calls Try.prog 24 #[.slice (some ⟨ea, fa, none⟩) len cap, .agg #[.int .i64 (r.1 : Int), .int .i64 (r.2 : Int)]] (grow (redrawn wr d) os) fun e w'' => e = .returned (.slice (some ⟨ea, fa + r.1, none⟩) (r.2 - r.1) (cap - r.1)) ∧ ∃ p : Regrown, w'' = grow (redrawn wr p.d) p.os := fun d os => Calls.regrown_of (Piece_any ea fa len cap r.1 r.2 p1 p2 hcap p3 _)
          have hP2 : ∀ d os, Calls Try.prog 24 #[.slice (some ⟨eb, fb, none⟩) len' cap', .agg #[.int .i64 (s.1 : Int), .int .i64 (s.2 : Int)]] (grow (redrawn wr d) os) fun e w'' => e = .returned (.slice (some ⟨eb, fb + s.1, none⟩) (s.2 - s.1) (cap' - s.1)) ∧ ∃ p : Regrown, w'' = grow (redrawn wr p.d) p.os := fun d os => Calls.regrown_of (Piece_any eb fb len' cap' s.1 s.2 p1' p2' hcap' p3' _)
          have hS0 : ∀ d os, Calls Try.prog 23 #[.slice (some ⟨ea, fa + r.1, none⟩) (r.2 - r.1) (cap - r.1), .slice (some ⟨eb, fb + s.1, none⟩) (s.2 - s.1) (cap' - s.1)] (grow (redrawn wr d) os) fun e w'' => e = .returned (.bool (decide (piece xa r = piece xb s))) ∧ ∃ p : Regrown, w'' = grow (redrawn wr p.d) p.os := fun d os =>
            Calls.regrown_of ((Same_any _ _ _ _ _ _ (piece xa r) (piece xb s) _ ((hr2.part p1 p2).below (below_regrown wr d os)) ((hr2'.part p1' p2').below (below_regrown wr d os))).mono fun e w'' ⟨h1, m, h2⟩ => ⟨h1, by rw [h2]; exact below_drewN (Below.refl _ _) m⟩)
          have Hri := Lib.hid hri2
          clear hr2 hr2' c00 c01 cx cy cx' cy' hri hri2
          by_cases hh : piece xa r = piece xb s
          · have hS := hS0
            rw [show decide (piece xa r = piece xb s) = true from by simp [hh]] at hS
            clear hS0
            have hio := idxOf_at (Hri.out.trans (by rw [hh])) Hni.out
            have hm1 := mres_hit (rs.map (piece xa)) ((ss.map (piece xb)).take k) (piece xb s) hio.1
            rw [hio.2, Hlk.out, ← Htk.out, HM.out] at hm1
            have Hm := Lib.hid hm1
            have Hh := Lib.hid hh
            clear hio hm1 hh
            go_wp2
            refine wp_region_quiet_below (by kernel_rfl) (by kernel_rfl) ?_
            repeat (go_big_quiet_step (first | exact hP1 _ _ | exact hP2 _ _ | exact hS _ _))
            refine wpQuiet_nil ?_
            intro _ hw'
            obtain ⟨⟨dq, osq⟩, hw''⟩ := hw'
            have hg := below_regrown wr dq osq
            rw [← hw''] at hg
            clear hw'' hP1 hP2 hS k00 k01 kx ky kx' ky'
            have hrow2 := own_below hrow' hg
            have hg2 := hg.size
            have hBg := hB2.trans (hg.mono hsz2)
            clear hB hrow hB' hB2 hrow'
            go_wp2_with (at_builtin; refine wpList_append_own _ rfl _ _ 36 rfl w2.heap.size 26 i0 (.agg #[.int .i64 0, .int .i64 0]) 2 16 Try.underlying36 hi0 hz0 hz1 hz2 rfl (by decide) _ _ _ rfl (hrow2.alloc _) ⟨_, 0, none⟩ 1 1 [.int .i64 (i : Int), .int .i64 (k : Int)] rfl rfl (cells_new _ [.int .i64 (i : Int), .int .i64 (k : Int)] _) (by simp [Value.oneCell']) (by unfold maxLen; omega) (by omega) (by simp; omega) ?_; intro v' w3 hown' hgrow _)
            have hB3 : Below w2.heap.size w2 w3 := (hBg.alloc (by omega) _).grown hgrow (by simp; omega) (fun k' e' => (hrow2.lt k' e').1)
            exact ⟨⟨k + 1, by omega, by go_num, hB3, by rw [Hm.out, List.length_append, List.map_append, List.flatMap_append]; simpa [twoV, natPair] using hown'⟩, by simp [intOf]; omega⟩
          · have hS := hS0
            rw [show decide (piece xa r = piece xb s) = false from by simp [hh]] at hS
            clear hS0
            have Hnn := Lib.hid (take_snoc_not Hri.out Hni.out hh)
            clear hh
            go_wp2
            refine wp_region_quiet_below (by kernel_rfl) (by kernel_rfl) ?_
            repeat (go_big_quiet_step (first | exact hP1 _ _ | exact hP2 _ _ | exact hS _ _))
            refine wpQuiet_nil ?_
            intro _ hw'
            obtain ⟨⟨dq, osq⟩, hw''⟩ := hw'
            have hg := below_regrown wr dq osq
            rw [← hw''] at hg
            clear hw'' hP1 hP2 hS k00 k01 kx ky kx' ky'
            go_wp2
            exact ⟨⟨i + 1, by omega, by go_num, rfl, hB'.trans (hg.mono hB'.size), Hnn⟩, by simp [intOf]; omega⟩
        · obtain rfl : i = rs.length := by omega
          have hm := Hni.out
          rw [List.take_of_length_le (by simp)] at hm
          have hm1 := mres_miss (rs.map (piece xa)) ((ss.map (piece xb)).take k) (piece xb s) hm
          rw [← Htk.out, HM.out] at hm1
          have Hm := Lib.hid hm1
          clear hm hm1
          go_wp2
          exact ⟨⟨k + 1, by omega, by go_num, hB2, by rw [Hm.out]; exact hrow'⟩, by simp [intOf]; omega⟩
    · obtain rfl : k = ss.length := by omega
      go_wp2
      go_ret2
      rw [List.take_of_length_le (by simp)] at hrow
      obtain ⟨A3, c3, rfl⟩ := ownsRow_slice hrow
      exact ⟨A3, _, c3, rfl, Rd.of_own hrow, B2.trans (hB.mono B2.size)⟩

theorem froms_in (bs : List UInt8) (lo hi : Nat) : ∀ n p, bs.length - p = n → p ≤ bs.length → ∀ r ∈ froms bs lo hi p, r.1 ≤ r.2 ∧ r.2 ≤ bs.length ∧ r.1 < bs.length := by
  intro n
  induction n using Nat.strongRecOn with
  | _ n ih =>
    intro p hn hp r hr
    by_cases h : p < bs.length
    · rw [froms_cons h] at hr
      have he := endAt_le bs lo hi p h
      rcases List.mem_cons.1 hr with rfl | hr
      · exact ⟨by dsimp only; omega, by dsimp only; omega, h⟩
      · exact ih _ (by omega) _ rfl (by omega) r hr
    · rw [froms_nil (by omega)] at hr
      cases hr
theorem blocks_in (bs : List UInt8) (lo hi : Nat) : ∀ r ∈ blocks bs lo hi, r.1 ≤ r.2 ∧ r.2 ≤ bs.length ∧ r.1 < bs.length := froms_in bs lo hi _ 0 rfl (by omega)

theorem RMatch_any (A A' : Option Addr) (len len' cap cap' lo hi : Nat) (xa xb : List UInt8) (hlo : 4 ≤ lo) (hlh : lo ≤ hi) (hhi : hi ≤ 4096) (w : World)
    (hr : Rd w 1 A len (xa.map byteV)) (hr' : Rd w 1 A' len' (xb.map byteV)) (hcap : len ≤ cap) (hcap' : len' ≤ cap') (hlen : len ≤ 8796093022208) (hlen' : len' ≤ 8796093022208) :
    Calls Try.prog 17 #[.agg #[.slice A len cap, .slice A' len' cap'], .agg #[.int .i64 lo, .int .i64 hi]] w fun e W' => ∃ A'' n'' c'', e = .returned (.tuple #[.slice A'' n'' c'', .int .i64 0]) ∧
      Rd W' 2 A'' n'' (((matchB xa xb lo hi).map natPair).flatMap twoV) ∧ Below w.heap.size w W' := by
  have l1 := hr.len1
  have l2 := hr'.len1
  have m1 := chain_length (blocks_chain xa lo hi hlh (by omega))
  have m2 := chain_length (blocks_chain xb lo hi hlh (by omega))
  refine RMatch_of A A' len len' cap cap' lo hi 0 0 xa xb (blocks xa lo hi) (blocks xb lo hi) w hr hr' hcap hcap' ?_ ?_ (by omega) (by omega) (fun W hW => RBlocks_any A len cap lo hi xa hlo hlh hhi W (hr.below hW) hlen) (fun W hW => RBlocks_any A' len' cap' lo hi xb hlo hlh hhi W (hr'.below hW) hlen')
  · rw [← l1]; exact blocks_in xa lo hi
  · rw [← l2]; exact blocks_in xb lo hi
theorem RMatch_bad (A A' : Option Addr) (len len' cap cap' : Nat) (a b : Int) (xa xb : List UInt8) (h : ¬ (4 ≤ a ∧ a ≤ b ∧ b ≤ 4096)) (w : World)
    (hr : Rd w 1 A len (xa.map byteV)) (hr' : Rd w 1 A' len' (xb.map byteV)) (hcap : len ≤ cap) (hcap' : len' ≤ cap') :
    Calls Try.prog 17 #[.agg #[.slice A len cap, .slice A' len' cap'], .agg #[.int .i64 a, .int .i64 b]] w fun e W' => ∃ A'' n'' c'', e = .returned (.tuple #[.slice A'' n'' c'', .int .i64 1]) ∧
      Rd W' 2 A'' n'' ((([] : List (Nat × Nat)).map natPair).flatMap twoV) ∧ Below w.heap.size w W' := by
  have h1 : ∀ A len cap, ∀ W, Below w.heap.size w W → Calls Try.prog 15 #[.slice A len cap, .agg #[.int .i64 a, .int .i64 b]] W fun e W' => ∃ A' n' c', e = .returned (.tuple #[.slice A' n' c', .int .i64 1]) ∧
      Rd W' 2 A' n' ((([] : List (Nat × Nat)).map natPair).flatMap twoV) ∧ Below W.heap.size W W' := fun A len cap W _ => (RBlocks_bad A len cap a b h W).mono fun e W' ⟨h1, h2⟩ => ⟨none, 0, 0, h1, Rd.nil _ _ _, h2⟩
  exact RMatch_of A A' len len' cap cap' a b 1 1 xa xb [] [] w hr hr' hcap hcap' (by simp) (by simp) (by simp) (by simp) (h1 A len cap) (h1 A' len' cap')
end Go.Proofs.Ytdhibimhohkmoaa
