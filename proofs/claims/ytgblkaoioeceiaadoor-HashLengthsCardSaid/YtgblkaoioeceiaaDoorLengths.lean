/- The law HashLengths. -/
import Derived.Test.YtgblkaoioeceiaaDoorRSum
import Derived.Test.YtgblkaoioeceiaaDoorSanity
namespace Go.Proofs.YtgblkaoioeceiaaDoor
open Go.RowKit Go.Sort

set_option maxRecDepth 100000 in
set_option maxHeartbeats 1000000 in
theorem Lengths_any (n c : UInt8) (w : World) (hg : Globs w) :
    Calls Tryd.prog 4 #[.int .u8 (n.toNat : Int), .int .u8 (c.toNat : Int)] w fun e w' => e = .returned (.bool true) ∧ Below w.heap.size w w' := by
  obtain ⟨i0, hi0, hz0, hz1, hz2⟩ := info_parts info5
  have hn := n.toNat_lt
  generalize n.toNat = N at *
  have H1 := Lib.hid (Sanity_any w hg)
  have Hg := Lib.hid hg
  clear hg
  go_enter Tryd.func4, Tryd.ntmps4
  go_wp2_with fail
  refine H1.out.mono ?_
  rintro e w2 ⟨rfl, hb2⟩
  have Hg2 := Lib.hid (Hg.out.below hb2)
  have Hb2 := Lib.hid hb2
  clear hb2
  go_wp2_with fail
  go_loopw [6, 7] (fun v t wx => ∃ z : Nat, z ≤ N % 201 ∧ t = .int .i64 z ∧ App wx w2.heap.size 5 v z ((List.replicate z c).map byteV) ∧ Below w2.heap.size w2 wx) (fun _ t _ => 201 - (intOf t).toNat)
  case atStart => exact ⟨0, by omega, rfl, .inl ⟨rfl, rfl, _, rfl⟩, (Below.refl _ _).alloc (Nat.le_refl _) _⟩
  case round =>
    obtain ⟨z, hz, rfl, happ, hB⟩ := hrel
    have hN := Nat.mod_lt N (show 0 < 201 by omega)
    by_cases hlt : z < N % 201
    · have HB := Lib.hid hB
      have Happ := Lib.hid happ
      have hsz3 := hB.size
      clear hB happ
      go_wp2_with (at_builtin; refine wpList_app rfl (.tmp 17) (.tmp 19) 22 rfl 5 i0 (.int .u8 0) 1 Tryd.underlying22 hi0 hz0 hz1 hz2 rfl w2.heap.size (by simp; omega) _ _ _ rfl (Happ.out.lit _ rfl) (some ⟨wr.heap.size, 0, none⟩) 1 1 [.int .u8 (c.toNat : Int)] rfl (lit_rd _ _) (by simp [Value.oneCell']) (by unfold maxLen; omega) (by omega) ?_; intro v1 w3 happ1 hb1)
      refine ⟨⟨z + 1, by omega, by go_num, ?_, (HB.out.alloc hsz3 _).trans hb1⟩, by simp [intOf]; omega⟩
      rw [List.replicate_succ', List.map_append]
      exact happ1
    · obtain rfl : z = N % 201 := by omega
      obtain ⟨A, cp, rfl, hcp, hR⟩ := happ.rd
      generalize hl : N % 201 = l at *
      have hdec : decide ((l : Int) < (N : Int) % 201) = false := decide_eq_false (by omega)
      have hl200 : l ≤ 200 := by omega
      obtain ⟨S, hS⟩ : ∃ S : Sum32, S.1 = sha (List.replicate l c) := ⟨⟨_, sha_length _⟩, rfl⟩
      have c1 : ∀ W, Below wr.heap.size wr W → Calls Tryd.prog 14 #[.slice A l cp] W fun e w' => e = .returned (.agg (sumC S).toArray) ∧ Below W.heap.size W w' := fun W hW => by
        have h := Sum_any A l cp (List.replicate l c) W ((Hg2.out.below hB).below hW) (hR.below hW) (by omega) hcp
        rw [← hS] at h
        exact h
      have c2 : ∀ W, Below wr.heap.size wr W → Calls Tryd.prog 15 #[.slice A l cp] W fun e w' => e = .returned (.agg (sumC S).toArray) ∧ Below W.heap.size W w' := fun W hW => by
        have h := RSum_any A l cp (List.replicate l c) W (hR.below hW) (by omega)
        rw [← hS] at h
        exact h
      have e1 : ∀ W, (binOp .eql 32 (.agg (sumC S).toArray) (.agg (sumC S).toArray)).run Tryd.prog W = .ok (.bool true) W := fun W => by rw [run_eql_sum, decide_eq_true rfl]
      have C1 := Lib.hid c1
      have C2 := Lib.hid c2
      clear c1 c2 hS
      have HB := Lib.hid (Hb2.out.trans (hB.mono Hb2.out.size))
      clear hR hB happ hl hlt hN hz
      go_wp2_with fail
      refine (C1.out wr (Below.refl _ _)).mono ?_
      rintro e w6 ⟨rfl, hb6⟩
      have Hb6 := Lib.hid hb6
      clear hb6
      go_wp2_with fail
      refine (C2.out w6 Hb6.out).mono ?_
      rintro e w7 ⟨rfl, hb7⟩
      have Hb7 := Lib.hid (HB.out.trans ((Hb6.out.trans (hb7.mono Hb6.out.size)).mono HB.out.size))
      clear hb7
      go_wp2_with fail
      go_ret
      exact ⟨rfl, Hb7.out⟩
end Go.Proofs.YtgblkaoioeceiaaDoor
