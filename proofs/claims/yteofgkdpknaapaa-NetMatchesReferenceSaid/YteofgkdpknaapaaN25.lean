/- Package net: the reference's SameNet. -/
import Derived.Test.YteofgkdpknaapaaN24
namespace Go.Proofs.Yteofgkdpknaapaa
open Go.RowKit Go.Sort

set_option maxRecDepth 100000 in
set_option maxHeartbeats 2000000 in
theorem SameNet_any (A : Option Addr) (n c : Nat) (ps : List Pk) (B : Option Addr) (m d : Nat) (qs : List Pk) (w : World) (h1 : PksAt w A n ps) (h2 : PksAt w B m qs) (o1 : ∀ x ∈ ps, okP x) (o2 : ∀ x ∈ qs, okP x) (hn : n ≤ 100000) (hm : m ≤ 100000) :
    Calls Try.prog 19 #[netV A n c, netV B m d] w fun e w' => e = .returned (.bool (decide (ps = qs))) ∧ Below w.heap.size w w' := by
  obtain ⟨R, hR⟩ : ∃ R, R = decide (ps = qs) := ⟨_, rfl⟩
  rw [← hR]
  have HR := Lib.hid hR
  clear hR
  have hl1 := h1.len
  have hl2 := h2.len
  obtain ⟨w1, hw1⟩ : ∃ q, q = (w.alloc (.cells #[.slice A n c] 30)).alloc (.cells #[.slice B m d] 30) := ⟨_, rfl⟩
  have hB1 : Below w.heap.size w w1 := by rw [hw1]; exact ((Below.refl _ _).alloc (Nat.le_refl _) _).alloc (by simp) _
  have hX1 : Blk w1 w.heap.size 30 #[.slice A n c] := by rw [hw1]; exact (Blk.new _ _ _).alloc _
  have hY1 : Blk w1 (w.heap.size + 1) 30 #[.slice B m d] := by
    have := Blk.new (w.alloc (.cells #[.slice A n c] 30)) 30 #[.slice B m d]
    rw [World.size_alloc] at this
    rw [hw1]; exact this
  have x0 : w1.cell? ⟨w.heap.size, 0, none⟩ = some (.slice A n c) := (hX1.cell 0).trans rfl
  have y0 : w1.cell? ⟨w.heap.size + 1, 0, none⟩ = some (.slice B m d) := (hY1.cell 0).trans rfl
  have HW1 := Lib.hid hw1
  have HX := Lib.hid hX1
  have HY := Lib.hid hY1
  have HB := Lib.hid hB1
  have H1 := Lib.hid (h1.below hB1)
  have H2 := Lib.hid (h2.below hB1)
  clear hw1 hX1 hY1 hB1 h1 h2
  unfold netV
  go_enter Try.func19, Try.ntmps19
  go_upto_region 1 with fail
  rw [← HW1.out]
  by_cases hnm : n = m
  rotate_left
  · have gm : ((n : Int) == (m : Int)) = false := by rw [beq_eq_false_iff_ne]; omega
    have gm2 : ¬ (n : Int) = (m : Int) := by omega
    have Hr := Lib.hid (show R = false by rw [HR.out]; exact decide_eq_false (fun h => hnm (by rw [← hl1, ← hl2, h])))
    clear hnm
    go_wp2_with fail
    go_ret
    exact ⟨by rw [Hr.out]; rfl, HB.out⟩
  subst hnm
  go_upto_region 4 with fail
  obtain ⟨d39, hd39, hrow39⟩ := und39
  go_loopw [5] (fun v5 wr => ∃ j : Nat, v5 = .int .i64 (j : Int) ∧ j ≤ n ∧ ps.take j = qs.take j ∧ Below w1.heap.size w1 wr) (fun v5 _ => n - (intOf v5).toNat)
  case atStart => exact ⟨0, rfl, Nat.zero_le _, rfl, Below.refl _ _⟩
  case round =>
    obtain ⟨j, rfl, hj, htk, hBr⟩ := hrel
    have x0 : wr.cell? ⟨w.heap.size, 0, none⟩ = some (.slice A n c) := ((HX.out.below hBr HX.out.lt).cell 0).trans rfl
    have HBr := Lib.hid hBr
    have Htk := Lib.hid htk
    clear hBr htk y0
    by_cases hlt : j < n
    · have dj : decide ((j : Int) < (n : Int)) = true := decide_eq_true (by omega)
      have hj1 : (j : Int) < (n : Int) := by omega
      have hj0 : (0 : Int) ≤ (j : Int) := by omega
      obtain ⟨vs, hT1, hK1⟩ := H1.out
      obtain ⟨us, hT2, hK2⟩ := H2.out
      have hkl1 := hT1.1.lenf pvC_len (by omega)
      have hkl2 := hT2.1.lenf pvC_len (by omega)
      obtain ⟨v, hv⟩ : ∃ q, vs[j]? = some q := ⟨_, List.getElem?_eq_getElem (by omega)⟩
      obtain ⟨u, hu⟩ : ∃ q, us[j]? = some q := ⟨_, List.getElem?_eq_getElem (by omega)⟩
      obtain ⟨p, hp⟩ : ∃ q, ps[j]? = some q := ⟨_, List.getElem?_eq_getElem (by omega)⟩
      obtain ⟨q, hq⟩ : ∃ q, qs[j]? = some q := ⟨_, List.getElem?_eq_getElem (by omega)⟩
      obtain ⟨cb1, co1, e1, _⟩ := hT1.1.2.2 (by omega)
      obtain ⟨cb2, co2, e2, _⟩ := hT2.1.2.2 (by omega)
      subst e1 e2
      have HXW : ∀ W, Below wr.heap.size wr W → W.cell? ⟨w.heap.size, 0, none⟩ = some (.slice (some ⟨cb1, co1, none⟩) n c) ∧ W.cell? ⟨w.heap.size + 1, 0, none⟩ = some (.slice (some ⟨cb2, co2, none⟩) n d) := fun W hW => by
        have h := HBr.out.trans (hW.mono HBr.out.size)
        exact ⟨((HX.out.below h HX.out.lt).cell 0).trans rfl, ((HY.out.below h HY.out.lt).cell 0).trans rfl⟩
      have HK1 : ∀ W, Below wr.heap.size wr W → W.rangeAt cb1 (co1 + j * 7) (pvC v) ∧ PvOk W v p := fun W hW => by
        have h := HBr.out.trans (hW.mono HBr.out.size)
        exact ⟨rd_row pvC_len (by omega) (hT1.below h).1 hv, (hK1.below h).2 j v p hv hp⟩
      have HK2 : ∀ W, Below wr.heap.size wr W → W.rangeAt cb2 (co2 + j * 7) (pvC u) ∧ PvOk W u q := fun W hW => by
        have h := HBr.out.trans (hW.mono HBr.out.size)
        exact ⟨rd_row pvC_len (by omega) (hT2.below h).1 hu, (hK2.below h).2 j u q hu hq⟩
      have hne : ¬ p = q → R = false := fun h => by
        rw [HR.out]
        refine decide_eq_false fun e => h ?_
        rw [e, hq] at hp
        exact (Option.some.inj hp).symm
      have hnx : p = q → ps.take (j + 1) = qs.take (j + 1) := fun h => take_eq_succ' Htk.out hp hq h
      have Hne := Lib.hid hne
      have Hnx := Lib.hid hnx
      clear hne hnx hT1 hT2 hK1 hK2 hv hu
      go_upto_region 6 with fail
      refine wp_region_flowF [20, 21, 22, 23, 24, 25, 26, 27, 28, 29, 30, 31] [(Spec.is (.pointer (some ⟨w.heap.size, 0, none⟩)), false), (Spec.is (.slice (some ⟨cb1, co1, none⟩) n c), false), (Spec.is (.int .i64 (j : Int)), false), (Spec.is (.pointer (some ⟨cb1, co1 + j * 7, none⟩)), false), (Spec.is (.agg (pvC v).toArray), false), (Spec.is (.pointer (some ⟨w.heap.size + 1, 0, none⟩)), false), (Spec.is (.slice (some ⟨cb2, co2, none⟩) n d), false), (Spec.is (.int .i64 (j : Int)), false), (Spec.is (.pointer (some ⟨cb2, co2 + j * 7, none⟩)), false), (Spec.is (.agg (pvC u).toArray), false), (Spec.is (.bool (decide (p = q))), false), (Spec.is (.bool (!decide (p = q))), false)] 32 (by kernel_rfl) rfl (by decide) rfl (by decide) (by kernel_rfl) ?_ ?_
      · refine ⟨?_, ?_, ?_, ?_, ?_, ?_, ?_, ?_, ?_, ?_, ?_, ?_, trivial⟩
        · intro a W hE hb hs
          have h2 : a.eval (.tmp 2) = .pointer (some ⟨w.heap.size, 0, none⟩) := hb 2 (by decide)
          refine flow0 rfl ?_
          intro K hK
          unfold Oper.wp execOp
          simp only [h2]
          simp [go_sem]
          exact hK _ _ ⟨Below.refl _ _, rfl, trivial⟩
        · intro a W hE hb hs
          have h20 : a.eval (.tmp 20) = .pointer (some ⟨w.heap.size, 0, none⟩) := hs 0 (by decide)
          refine flow0 rfl ?_
          have c0 : W.cell? ⟨w.heap.size, 0, none⟩ = some (.slice (some ⟨cb1, co1, none⟩) n c) := (HXW W (ext_below hE)).1
          intro K hK
          unfold Oper.wp execOp
          simp only [h20]
          simp [go_sem, c0]
          exact hK _ _ ⟨Below.refl _ _, rfl, trivial⟩
        · intro a W hE hb hs
          have h5 : a.eval (.tmp 5) = .int .i64 (j : Int) := hb 5 (by decide)
          refine flow0 rfl ?_
          exact val_move _ rfl _ h5 ⟨rfl, trivial⟩
        · intro a W hE hb hs
          have h21 : a.eval (.tmp 21) = .slice (some ⟨cb1, co1, none⟩) n c := hs 1 (by decide)
          have h22 : a.eval (.tmp 22) = .int .i64 (j : Int) := hs 2 (by decide)
          refine flow0 rfl ?_
          intro K hK
          unfold Oper.wp execOp
          simp only [h21, h22]
          simp [go_sem, hj1, hj0]
          exact hK _ _ ⟨Below.refl _ _, rfl, trivial⟩
        · intro a W hE hb hs
          have h23 : a.eval (.tmp 23) = .pointer (some ⟨cb1, co1 + j * 7, none⟩) := hs 3 (by decide)
          refine flow0 rfl ?_
          exact val_load_row 39 _ rfl cb1 (co1 + j * 7) h23 (pvC v) d39 ((HK1 W (ext_below hE)).1) hd39 hrow39 (by rw [pvC_len]; kernel_rfl) ⟨rfl, trivial⟩
        · intro a W hE hb hs
          have h3 : a.eval (.tmp 3) = .pointer (some ⟨w.heap.size + 1, 0, none⟩) := hb 3 (by decide)
          refine flow0 rfl ?_
          intro K hK
          unfold Oper.wp execOp
          simp only [h3]
          simp [go_sem]
          exact hK _ _ ⟨Below.refl _ _, rfl, trivial⟩
        · intro a W hE hb hs
          have h25 : a.eval (.tmp 25) = .pointer (some ⟨w.heap.size + 1, 0, none⟩) := hs 5 (by decide)
          refine flow0 rfl ?_
          have c0 : W.cell? ⟨w.heap.size + 1, 0, none⟩ = some (.slice (some ⟨cb2, co2, none⟩) n d) := (HXW W (ext_below hE)).2
          intro K hK
          unfold Oper.wp execOp
          simp only [h25]
          simp [go_sem, c0]
          exact hK _ _ ⟨Below.refl _ _, rfl, trivial⟩
        · intro a W hE hb hs
          have h5 : a.eval (.tmp 5) = .int .i64 (j : Int) := hb 5 (by decide)
          refine flow0 rfl ?_
          exact val_move _ rfl _ h5 ⟨rfl, trivial⟩
        · intro a W hE hb hs
          have h26 : a.eval (.tmp 26) = .slice (some ⟨cb2, co2, none⟩) n d := hs 6 (by decide)
          have h27 : a.eval (.tmp 27) = .int .i64 (j : Int) := hs 7 (by decide)
          refine flow0 rfl ?_
          intro K hK
          unfold Oper.wp execOp
          simp only [h26, h27]
          simp [go_sem, hj1, hj0]
          exact hK _ _ ⟨Below.refl _ _, rfl, trivial⟩
        · intro a W hE hb hs
          have h28 : a.eval (.tmp 28) = .pointer (some ⟨cb2, co2 + j * 7, none⟩) := hs 8 (by decide)
          refine flow0 rfl ?_
          exact val_load_row 39 _ rfl cb2 (co2 + j * 7) h28 (pvC u) d39 ((HK2 W (ext_below hE)).1) hd39 hrow39 (by rw [pvC_len]; kernel_rfl) ⟨rfl, trivial⟩
        · intro a W hE hb hs
          have h24 : a.eval (.tmp 24) = .agg (pvC v).toArray := hs 4 (by decide)
          have h29 : a.eval (.tmp 29) = .agg (pvC u).toArray := hs 9 (by decide)
          refine flow0 rfl ?_
          exact val_call 18 _ _ rfl (by kernel_rfl) [.agg (pvC v).toArray, .agg (pvC u).toArray] (by show [a.eval (.tmp 24), a.eval (.tmp 29)] = _; rw [h24, h29]) ((Same_any v u p q W (HK1 W (ext_below hE)).2 (HK2 W (ext_below hE)).2 (o1 p (List.mem_of_getElem? hp)) (o2 q (List.mem_of_getElem? hq))).mono (by rintro e W' ⟨rfl, hb⟩; exact ⟨_, rfl, hb, rfl, trivial⟩))
        · intro a W hE hb hs
          have h30 : a.eval (.tmp 30) = .bool (decide (p = q)) := hs 10 (by decide)
          refine flow0 rfl ?_
          exact val_not _ _ rfl _ h30 ⟨rfl, trivial⟩
      · intro f W hb hT hp_ hd
        have e31 : f 31 = .bool (!decide (p = q)) := hT 11 (by decide)
        have HbW := Lib.hid (HBr.out.trans (hb.mono HBr.out.size))
        simp only [putV, List.foldl_cons, List.foldl_nil, Act.put, List.setIfInBounds_toArray, List.set_cons_succ, List.set_cons_zero, Exit.then]
        rw [e31]
        clear hb hT hp_ hd e31
        by_cases hs : p = q
        · rw [decide_eq_true hs]
          have Hn := Lib.hid (Hnx.out hs)
          clear hs
          go_wp2_with fail
          exact ⟨⟨j + 1, by push_cast; rfl, by omega, Hn.out, HbW.out⟩, by simp only [intOf]; omega⟩
        · rw [decide_eq_false hs]
          have Hv := Lib.hid (Hne.out hs)
          clear hs
          go_wp2_with fail
          go_ret
          exact ⟨by rw [Hv.out]; rfl, HB.out.trans (HbW.out.mono HB.out.size)⟩
    · have dj : decide ((j : Int) < (n : Int)) = false := decide_eq_false (by omega)
      have hjn : ¬ (j : Int) < (n : Int) := by omega
      have Hv := Lib.hid (show R = true by
        rw [HR.out]
        have h := Htk.out
        rw [List.take_of_length_le (by omega), List.take_of_length_le (by omega)] at h
        exact decide_eq_true h)
      go_wp2_with fail
      go_ret
      exact ⟨by rw [Hv.out]; rfl, HB.out.trans (HBr.out.mono HB.out.size)⟩
end Go.Proofs.Yteofgkdpknaapaa
