/- The iterator of package block: it yields the blocks, one after the other. -/
import Derived.Test.YtdhibimhohkmoaaSeq
import Derived.Test.YtdhibimhohkmoaaBlockSpec
namespace Go.Proofs.Ytdhibimhohkmoaa
open Go.RowKit Go.Shelf

attribute [local go_sem] Oper.semAt_some

/-- A part of the bytes. -/
abbrev Part (bs : List UInt8) := { r : Nat × Nat // r.1 < r.2 ∧ r.2 ≤ bs.length }

set_option maxRecDepth 100000 in
set_option maxHeartbeats 2000000 in
theorem all1_in (n : Nat) (hn : 1 ≤ n) (l B1 B2 B3 : Nat) (S : Nat → Prop) (A : Option Addr) (len cap lo hi : Nat) (bs : List UInt8) (hlo : 4 ≤ lo) (hlh : lo ≤ hi) (hhi : hi ≤ 4096) (J Jx : List (Part bs) → World → Prop)
    (hY : ∀ pre x W, J pre W → pre.length < len → YieldAt Fence.wide (n - 1) Try.prog l #[.agg #[.int .i64 (x.1.1 : Int), .int .i64 (x.1.2 : Int)]] W fun e W' =>
      (e = .returned (.bool true) ∧ J (pre ++ [x]) W' ∧ KeptIn S W W') ∨ (e = .returned (.bool false) ∧ Jx (pre ++ [x]) W'))
    (W : World) (hB1 : W.cell? ⟨B1, 0, none⟩ = some (.slice A len cap)) (hB2 : W.cell? ⟨B2, 0, none⟩ = some (.int .i64 hi)) (hB3 : W.cell? ⟨B3, 0, none⟩ = some (.int .i64 lo))
    (l1 : S B1) (l2 : S B2) (l3 : S B3) (hr : Rd W 1 A len (bs.map byteV)) (hrn : ∀ b off, 0 < len → A = some ⟨b, off, none⟩ → S b) (h0 : J [] W) :
    CallsIn Fence.wide n Try.prog 30 #[.func (.yield l) #[] #[], .pointer (some ⟨B1, 0, none⟩), .pointer (some ⟨B2, 0, none⟩), .pointer (some ⟨B3, 0, none⟩)] W fun e W' => (∃ v, e = .returned v) ∧
      ((∃ ys : List (Part bs), ys.map (·.1) = blocks bs lo hi ∧ J ys W') ∨ (∃ pre, True ∧ Jx pre W')) := by
  have hle := hr.le
  have hlen := hr.len1
  subst hlen
  refine callsIn_of_wp Try.func30 rfl trivial ?_ rfl
  simp only [Try.ntmps30, List.size_toArray, List.length_cons, List.length_nil, Nat.reduceAdd, Nat.reduceSub, Array.replicate_succ, Array.replicate_zero, List.push_toArray, List.append_toArray, List.nil_append, List.cons_append]
  gi_wp2
  gi_loopw [5, 6, 12] (fun f s i wr => ∃ (k p : Nat) (pre : List (Part bs)), k ≤ bs.length ∧ p ≤ k ∧ i = .int .i64 k ∧ f = .int .i64 p ∧ s = .int .i64 (tailSum bs k) ∧ pre.length ≤ p ∧
      pre.map (·.1) ++ blks bs lo hi (bs.length - k) p k = blocks bs lo hi ∧ J pre wr ∧ KeptIn S W wr) (fun _ _ i _ => bs.length - (intOf i).toNat)
  case atStart => exact ⟨0, 0, [], Nat.zero_le _, Nat.le_refl _, rfl, rfl, rfl, Nat.le_refl _, rfl, h0, KeptIn.refl _ _⟩
  case round =>
    obtain ⟨k, p, pre, hk, hp, rfl, rfl, rfl, hpl, hpre, hJs, hnx⟩ := hrel
    have c1 : wr.cell? ⟨B1, 0, none⟩ = some (.slice A bs.length cap) := (hnx.cell (p := ⟨B1, 0, none⟩) l1).trans hB1
    have c2 : wr.cell? ⟨B2, 0, none⟩ = some (.int .i64 hi) := (hnx.cell (p := ⟨B2, 0, none⟩) l2).trans hB2
    have c3 : wr.cell? ⟨B3, 0, none⟩ = some (.int .i64 lo) := (hnx.cell (p := ⟨B3, 0, none⟩) l3).trans hB3
    by_cases hlt : k < bs.length
    · obtain ⟨b, off, x, rfl, hx, hcx⟩ := hr.byte_ hlt
      have hb := hrn b off (by omega) rfl
      have c4 : wr.cell? ⟨b, off + k, none⟩ = some (.int .u8 (x.toNat : Int)) := (hnx.cell (p := ⟨b, off + k, none⟩) hb).trans hcx
      have ts := tailSum_succ hx
      have tb := tailSum_le bs k
      have tb1 := tailSum_le bs (k + 1)
      have xb := x.toNat_lt
      clear hB1 hB2 hB3 hcx
      have H := Lib.hid (And.intro hpre ts)
      clear hpre ts
      by_cases h4 : 4 ≤ k
      · obtain ⟨b', off', y, hA, hy, hcy⟩ := hr.byte_ (k := k - 4) (by omega)
        cases hA
        have c5 : wr.cell? ⟨b, off + (k - 4), none⟩ = some (.int .u8 (y.toNat : Int)) := (hnx.cell (p := ⟨b, off + (k - 4), none⟩) hb).trans hcy
        have hyy : bs.getD (k - 4) 0 = y := by simp [List.getD, hy]
        have ht1 : tailSum bs (k + 1) = tailSum bs k + x.toNat - y.toNat := by rw [H.out.2, if_pos h4, hyy]
        have hyb : (y.toNat : Int) ≤ tailSum bs k + x.toNat := by omega
        have Ht := Lib.hid ht1
        clear hy hcy hyy ht1
        have hs4 : 4 ≤ k + 1 → (sumAt bs (k + 1) : Int) = tailSum bs k + (x.toNat : Int) - (y.toNat : Int) := fun h => by rw [← tailSum_eq bs (k + 1) h (by omega), Ht.out]
        have Hs4 := Lib.hid hs4
        clear hs4
        by_cases q1 : k + 1 = bs.length
        · have b1 : ((k : Int) + 1 == (bs.length : Int)) = true := by rw [beq_iff_eq]; omega
          have Hst := Lib.hid (show stp bs lo hi p (k + 1) = true by simp [stp, q1])
          clear q1
          obtain ⟨fn, tmps, assign, body, hy, hR⟩ := hY pre ⟨(p, k + 1), by omega, by omega⟩ wr hJs (by omega)
          dsimp only at hy
          rw [show (((k + 1 : Nat)) : Int) = (k : Int) + 1 from by omega] at hy
          gi_wp2
          refine hR.mono ?_
          rintro e W3 (⟨rfl, hJ3, hk3⟩ | ⟨rfl, hJx3⟩)
          · gi_wp2
            exact ⟨⟨k + 1, k + 1, pre ++ [⟨(p, k + 1), by omega, by omega⟩], by omega, by omega, by go_num, by go_num, by rw [Ht.out], by simp; omega, by rw [← H.out.1, blks_yes hlt Hst.out]; simp, hJ3, hnx.trans hk3⟩, by simp [intOf]; omega⟩
          · gi_wp2
            refine bodyPost_ret (results_none rfl _ _ _) rfl ?_
            exact ⟨⟨_, rfl⟩, .inr ⟨_, trivial, hJx3⟩⟩
        · have b1 : ((k : Int) + 1 == (bs.length : Int)) = false := by rw [beq_eq_false_iff_ne]; omega
          by_cases q2 : k + 1 - p = hi
          · have b2 : ((k : Int) + 1 - (p : Int) == (hi : Int)) = true := by rw [beq_iff_eq]; omega
            have Hst := Lib.hid (show stp bs lo hi p (k + 1) = true by simp [stp, q2])
            clear q1 q2
            obtain ⟨fn, tmps, assign, body, hy, hR⟩ := hY pre ⟨(p, k + 1), by omega, by omega⟩ wr hJs (by omega)
            dsimp only at hy
            rw [show (((k + 1 : Nat)) : Int) = (k : Int) + 1 from by omega] at hy
            gi_wp2
            refine hR.mono ?_
            rintro e W3 (⟨rfl, hJ3, hk3⟩ | ⟨rfl, hJx3⟩)
            · gi_wp2
              exact ⟨⟨k + 1, k + 1, pre ++ [⟨(p, k + 1), by omega, by omega⟩], by omega, by omega, by go_num, by go_num, by rw [Ht.out], by simp; omega, by rw [← H.out.1, blks_yes hlt Hst.out]; simp, hJ3, hnx.trans hk3⟩, by simp [intOf]; omega⟩
            · gi_wp2
              refine bodyPost_ret (results_none rfl _ _ _) rfl ?_
              exact ⟨⟨_, rfl⟩, .inr ⟨_, trivial, hJx3⟩⟩
          · have b2 : ((k : Int) + 1 - (p : Int) == (hi : Int)) = false := by rw [beq_eq_false_iff_ne]; omega
            by_cases q3 : lo ≤ k + 1 - p
            · have q3' : (lo : Int) ≤ (k : Int) + 1 - (p : Int) := by omega
              have hs := Hs4.out (by omega)
              by_cases q4 : sumAt bs (k + 1) % 16 = 0
              · have b3 : ((tailSum bs k + (x.toNat : Int) - (y.toNat : Int)) % 16 == 0) = true := by rw [← hs, beq_iff_eq]; omega
                have Hst := Lib.hid (show stp bs lo hi p (k + 1) = true by simp [stp, q3, q4])
                clear q1 q2 q3 q4 hs
                obtain ⟨fn, tmps, assign, body, hy, hR⟩ := hY pre ⟨(p, k + 1), by omega, by omega⟩ wr hJs (by omega)
                dsimp only at hy
                rw [show (((k + 1 : Nat)) : Int) = (k : Int) + 1 from by omega] at hy
                gi_wp2
                refine hR.mono ?_
                rintro e W3 (⟨rfl, hJ3, hk3⟩ | ⟨rfl, hJx3⟩)
                · gi_wp2
                  exact ⟨⟨k + 1, k + 1, pre ++ [⟨(p, k + 1), by omega, by omega⟩], by omega, by omega, by go_num, by go_num, by rw [Ht.out], by simp; omega, by rw [← H.out.1, blks_yes hlt Hst.out]; simp, hJ3, hnx.trans hk3⟩, by simp [intOf]; omega⟩
                · gi_wp2
                  refine bodyPost_ret (results_none rfl _ _ _) rfl ?_
                  exact ⟨⟨_, rfl⟩, .inr ⟨_, trivial, hJx3⟩⟩
              · have b3 : ((tailSum bs k + (x.toNat : Int) - (y.toNat : Int)) % 16 == 0) = false := by rw [← hs, beq_eq_false_iff_ne]; omega
                have Hst := Lib.hid (show stp bs lo hi p (k + 1) = false by simp [stp, q1, q2, q4])
                clear q1 q2 q3 q4 hs
                gi_wp2
                exact ⟨⟨k + 1, p, pre, by omega, by omega, by go_num, rfl, by rw [Ht.out], by omega, by rw [← H.out.1, blks_no hlt Hst.out], hJs, hnx⟩, by simp [intOf]; omega⟩
            · have q3' : (k : Int) + 1 - (p : Int) < (lo : Int) := by omega
              have Hst := Lib.hid (show stp bs lo hi p (k + 1) = false by simp [stp, q1, q2, q3])
              clear q1 q2 q3
              gi_wp2
              exact ⟨⟨k + 1, p, pre, by omega, by omega, by go_num, rfl, by rw [Ht.out], by omega, by rw [← H.out.1, blks_no hlt Hst.out], hJs, hnx⟩, by simp [intOf]; omega⟩
      · have ht1 : tailSum bs (k + 1) = tailSum bs k + x.toNat := by rw [H.out.2, if_neg h4]; omega
        have Ht := Lib.hid ht1
        clear ht1
        have hs4 : 4 ≤ k + 1 → (sumAt bs (k + 1) : Int) = tailSum bs k + (x.toNat : Int) := fun h => by rw [← tailSum_eq bs (k + 1) h (by omega), Ht.out]
        have Hs4 := Lib.hid hs4
        clear hs4
        by_cases q1 : k + 1 = bs.length
        · have b1 : ((k : Int) + 1 == (bs.length : Int)) = true := by rw [beq_iff_eq]; omega
          have Hst := Lib.hid (show stp bs lo hi p (k + 1) = true by simp [stp, q1])
          clear q1
          obtain ⟨fn, tmps, assign, body, hy, hR⟩ := hY pre ⟨(p, k + 1), by omega, by omega⟩ wr hJs (by omega)
          dsimp only at hy
          rw [show (((k + 1 : Nat)) : Int) = (k : Int) + 1 from by omega] at hy
          gi_wp2
          refine hR.mono ?_
          rintro e W3 (⟨rfl, hJ3, hk3⟩ | ⟨rfl, hJx3⟩)
          · gi_wp2
            exact ⟨⟨k + 1, k + 1, pre ++ [⟨(p, k + 1), by omega, by omega⟩], by omega, by omega, by go_num, by go_num, by rw [Ht.out], by simp; omega, by rw [← H.out.1, blks_yes hlt Hst.out]; simp, hJ3, hnx.trans hk3⟩, by simp [intOf]; omega⟩
          · gi_wp2
            refine bodyPost_ret (results_none rfl _ _ _) rfl ?_
            exact ⟨⟨_, rfl⟩, .inr ⟨_, trivial, hJx3⟩⟩
        · have b1 : ((k : Int) + 1 == (bs.length : Int)) = false := by rw [beq_eq_false_iff_ne]; omega
          by_cases q2 : k + 1 - p = hi
          · have b2 : ((k : Int) + 1 - (p : Int) == (hi : Int)) = true := by rw [beq_iff_eq]; omega
            have Hst := Lib.hid (show stp bs lo hi p (k + 1) = true by simp [stp, q2])
            clear q1 q2
            obtain ⟨fn, tmps, assign, body, hy, hR⟩ := hY pre ⟨(p, k + 1), by omega, by omega⟩ wr hJs (by omega)
            dsimp only at hy
            rw [show (((k + 1 : Nat)) : Int) = (k : Int) + 1 from by omega] at hy
            gi_wp2
            refine hR.mono ?_
            rintro e W3 (⟨rfl, hJ3, hk3⟩ | ⟨rfl, hJx3⟩)
            · gi_wp2
              exact ⟨⟨k + 1, k + 1, pre ++ [⟨(p, k + 1), by omega, by omega⟩], by omega, by omega, by go_num, by go_num, by rw [Ht.out], by simp; omega, by rw [← H.out.1, blks_yes hlt Hst.out]; simp, hJ3, hnx.trans hk3⟩, by simp [intOf]; omega⟩
            · gi_wp2
              refine bodyPost_ret (results_none rfl _ _ _) rfl ?_
              exact ⟨⟨_, rfl⟩, .inr ⟨_, trivial, hJx3⟩⟩
          · have b2 : ((k : Int) + 1 - (p : Int) == (hi : Int)) = false := by rw [beq_eq_false_iff_ne]; omega
            by_cases q3 : lo ≤ k + 1 - p
            · have q3' : (lo : Int) ≤ (k : Int) + 1 - (p : Int) := by omega
              have hs := Hs4.out (by omega)
              by_cases q4 : sumAt bs (k + 1) % 16 = 0
              · have b3 : ((tailSum bs k + (x.toNat : Int)) % 16 == 0) = true := by rw [← hs, beq_iff_eq]; omega
                have Hst := Lib.hid (show stp bs lo hi p (k + 1) = true by simp [stp, q3, q4])
                clear q1 q2 q3 q4 hs
                obtain ⟨fn, tmps, assign, body, hy, hR⟩ := hY pre ⟨(p, k + 1), by omega, by omega⟩ wr hJs (by omega)
                dsimp only at hy
                rw [show (((k + 1 : Nat)) : Int) = (k : Int) + 1 from by omega] at hy
                gi_wp2
                refine hR.mono ?_
                rintro e W3 (⟨rfl, hJ3, hk3⟩ | ⟨rfl, hJx3⟩)
                · gi_wp2
                  exact ⟨⟨k + 1, k + 1, pre ++ [⟨(p, k + 1), by omega, by omega⟩], by omega, by omega, by go_num, by go_num, by rw [Ht.out], by simp; omega, by rw [← H.out.1, blks_yes hlt Hst.out]; simp, hJ3, hnx.trans hk3⟩, by simp [intOf]; omega⟩
                · gi_wp2
                  refine bodyPost_ret (results_none rfl _ _ _) rfl ?_
                  exact ⟨⟨_, rfl⟩, .inr ⟨_, trivial, hJx3⟩⟩
              · have b3 : ((tailSum bs k + (x.toNat : Int)) % 16 == 0) = false := by rw [← hs, beq_eq_false_iff_ne]; omega
                have Hst := Lib.hid (show stp bs lo hi p (k + 1) = false by simp [stp, q1, q2, q4])
                clear q1 q2 q3 q4 hs
                gi_wp2
                exact ⟨⟨k + 1, p, pre, by omega, by omega, by go_num, rfl, by rw [Ht.out], by omega, by rw [← H.out.1, blks_no hlt Hst.out], hJs, hnx⟩, by simp [intOf]; omega⟩
            · have q3' : (k : Int) + 1 - (p : Int) < (lo : Int) := by omega
              have Hst := Lib.hid (show stp bs lo hi p (k + 1) = false by simp [stp, q1, q2, q3])
              clear q1 q2 q3
              gi_wp2
              exact ⟨⟨k + 1, p, pre, by omega, by omega, by go_num, rfl, by rw [Ht.out], by omega, by rw [← H.out.1, blks_no hlt Hst.out], hJs, hnx⟩, by simp [intOf]; omega⟩
    · obtain rfl : k = bs.length := by omega
      gi_wp2
      go_end0
      rw [Nat.sub_self] at hpre
      exact ⟨⟨_, rfl⟩, .inl ⟨pre, by simpa [blks] using hpre, hJs⟩⟩

end Go.Proofs.Ytdhibimhohkmoaa
