/- Package net: Parse, the walk. -/
import Derived.Test.YteofgkdpknaapaaN9b
namespace Go.Proofs.Yteofgkdpknaapaa
open Go.RowKit Go.Sort

def spKinds : Spec := ⟨fun v W => ∃ mb, v = .map (some mb) ∧ MapI W mb kinds, fun _ W W' ⟨mb, h1, h2⟩ hb => ⟨mb, h1, by
  unfold MapI at h2 ⊢
  rw [hb.block mb (by
    rcases Nat.lt_or_ge mb W.heap.size with h | h
    · exact h
    · rw [Array.getElem?_eq_none h] at h2; cases h2)]
  exact h2⟩⟩
theorem zero81 (w : World) : (zeroValue 81).run Try.prog w = .ok .nilFunc w := by
  obtain ⟨i, hi, hz, _⟩ := info_parts (show (Try.prog.info? 81).map (fun i => (i.zero, i.size, i.bytes)) = some (some .nilFunc, 1, 8) by kernel_rfl)
  unfold zeroValue
  simp [Sem.run_bind, show Try.t81.zero = some .nilFunc by kernel_rfl]
set_option maxRecDepth 100000 in
set_option maxHeartbeats 1000000 in
theorem NParse_any (A : Option Addr) (L c : Nat) (bs : List UInt8) (w : World) (hr : Rd w 1 A L (bs.map byteV)) (hlc : L ≤ c):
    Calls Try.prog 22 #[.slice A L c] w (ParseR bs w) := by
  have hmf : ∀ (fn : Fn) (first cap : Array Value) (w : World), (Instr.makeFunc fn first cap).run Try.prog w = .ok (.func fn first cap) w := fun _ _ _ _ => rfl
  have hl := hr.len1
  obtain ⟨w1, hw1⟩ : ∃ v, v = ((w.alloc (.cells (pkC 0 0 0 nl nl nl nl).toArray 39)).alloc (.cells #[.int .i64 0] 40)).alloc (.cells #[.slice A L c] 79) := ⟨_, rfl⟩
  have hP1 : Blk w1 w.heap.size 39 (pkC 0 0 0 nl nl nl nl).toArray := by rw [hw1]; exact ((Blk.new w _ _).alloc _).alloc _
  have hE1 : Blk w1 (w.heap.size + 1) 40 #[.int .i64 0] := by
    rw [hw1]
    have h := (Blk.new (w.alloc (.cells (pkC 0 0 0 nl nl nl nl).toArray 39)) 40 #[.int .i64 0]).alloc (.cells #[.slice A L c] 79)
    rwa [World.size_alloc] at h
  have hR1 : Blk w1 (w.heap.size + 1 + 1) 79 #[.slice A L c] := by
    rw [hw1]
    have h := Blk.new ((w.alloc (.cells (pkC 0 0 0 nl nl nl nl).toArray 39)).alloc (.cells #[.int .i64 0] 40)) 79 #[.slice A L c]
    rwa [World.size_alloc, World.size_alloc] at h
  have hb1 : Below w.heap.size w w1 := by rw [hw1]; exact (((Below.refl _ _).alloc (Nat.le_refl _) _).alloc (by rw [World.size_alloc]; omega) _).alloc (by rw [World.size_alloc, World.size_alloc]; omega) _
  have hS1 : RdS w1 (w.heap.size + 1 + 1) bs := ⟨A, c, by rw [hl]; exact hR1, by omega, by rw [hl]; exact hr.below hb1, fun h0 b off e => by have := hr.lt (by omega) (by omega) e; omega⟩
  have h1 := one_any _ bs w1 hS1
  have HP1 := Lib.hid hP1
  have HE1 := Lib.hid hE1
  have HB1 := Lib.hid hb1
  clear hP1 hE1 hR1 hb1 hS1
  unfold pkC at hw1
  go_enter_defers Try.func22, Try.ntmps22
  go_wp2_with fail
  rw [← hw1]
  refine h1.mono ?_
  rintro e w2 ⟨hm1, ho1⟩
  rcases bs with _ | ⟨k, bs⟩
  · cases hm1
    have hoD := ho1
    exact parse_door rfl rfl (hoD.blk HP1.out (by omega)) (hoD.blk HE1.out (by omega)) (HB1.out.trans (hoD.below (by omega) HB1.out.size)) rfl
  simp only [one] at hm1
  obtain ⟨rfl, hS2⟩ := hm1
  have hkl := k.toNat_lt
  have h2 := one_any _ bs w2 hS2
  have HO1 := Lib.hid ho1
  clear hS2 ho1 h1
  go_wp2_with fail
  refine h2.mono ?_
  rintro e w3 ⟨hm2, ho2⟩
  rcases bs with _ | ⟨u, bs⟩
  · cases hm2
    have hoD := HO1.out.trans ho2
    exact parse_door rfl rfl (hoD.blk HP1.out (by omega)) (hoD.blk HE1.out (by omega)) (HB1.out.trans (hoD.below (by omega) HB1.out.size)) rfl
  simp only [one] at hm2
  obtain ⟨rfl, hS3⟩ := hm2
  have hul := u.toNat_lt
  have h3 := one_any _ bs w3 hS3
  have HO2 := Lib.hid (HO1.out.trans ho2)
  clear hS3 ho2 h2 HO1
  go_wp2_with fail
  refine h3.mono ?_
  rintro e w4 ⟨hm3, ho3⟩
  rcases bs with _ | ⟨n, bs⟩
  · cases hm3
    have hoD := HO2.out.trans ho3
    exact parse_door rfl rfl (hoD.blk HP1.out (by omega)) (hoD.blk HE1.out (by omega)) (HB1.out.trans (hoD.below (by omega) HB1.out.size)) rfl
  simp only [one] at hm3
  obtain ⟨rfl, hS4⟩ := hm3
  have hnl := n.toNat_lt
  have ho4 := HO2.out.trans ho3
  have hP4 := ho4.blk HP1.out (by omega)
  have hE4 := ho4.blk HE1.out (by omega)
  have HS4 := Lib.hid hS4
  have HO4 := Lib.hid ho4
  have HP4 := Lib.hid hP4
  have HE4 := Lib.hid hE4
  clear hS4 ho4 hP4 hE4 h3 ho3 HO2 HP1 HE1
  obtain ⟨w5, hw5⟩ : ∃ v, v = w4.setRow w.heap.size (pkC (k.toNat : Int) (u.toNat : Int) (n.toNat : Int) nl nl nl nl).toArray := ⟨_, rfl⟩
  have hP5 : Blk w5 w.heap.size 39 (pkC (k.toNat : Int) (u.toNat : Int) (n.toNat : Int) nl nl nl nl).toArray := by rw [hw5]; exact setRow_heap _ _ _ _ _ _ HP4.out
  have hk5 : KeptIn (fun q => q ≠ w.heap.size) w4 w5 := by rw [hw5]; exact (KeptIn.refl (fun q => q ≠ w.heap.size) w4).setRow (g := w.heap.size) (fun h => h rfl) _
  have hE5 := HE4.out.keptIn hk5 (by omega)
  have hS5 : RdS w5 (w.heap.size + 1 + 1) bs := by
    obtain ⟨A4, c4, g1, g2, g3, g4⟩ := HS4.out
    exact ⟨A4, c4, g1.keptIn hk5 (by omega), g2, g3.keptIn hk5 (fun b off h0 e => pk_ne (k := 0) (u := 0) (n := 0) g3 HP4.out h0 e), g4⟩
  have HW5 := Lib.hid hw5
  have HP5 := Lib.hid hP5
  have HE5 := Lib.hid hE5
  have HS5 := Lib.hid hS5
  have HK5 := Lib.hid hk5
  clear hw5 hP5 hE5 hS5 hk5
  go_upto_region 4 with (first | (refine wpList_buildN rfl 39 _ rfl [(0, .int .i64 (k.toNat : Int)), (1, .int .i64 (u.toNat : Int)), (2, .int .i64 (n.toNat : Int))] rfl _ (built39p _ _ _) ?_) | (refine wpList_store_row rfl 39 (.tmp 2) (.tmp 17) rfl w.heap.size (pkC (k.toNat : Int) (u.toNat : Int) (n.toNat : Int) nl nl nl nl).toArray rfl rfl 39 _ HP4.out (size39p _ rfl) rfl (pk_one _ _ _) ?_; rw [← HW5.out]))
  refine wp_region_flowF [19, 20, 21, 22, 18, 23, 24, 5, 6] [(spKinds, false), (Spec.is (.pointer (some ⟨w.heap.size, 0, none⟩)), false), (Spec.is (.int .i64 (k.toNat : Int)), false), (Spec.is (.tuple #[((kinds.find? (fun p => p.1 == (k.toNat : Int))).map (·.2)).getD .nilFunc, .bool (kinds.find? (fun p => p.1 == (k.toNat : Int))).isSome]), false), (Spec.is (.tuple #[((kinds.find? (fun p => p.1 == (k.toNat : Int))).map (·.2)).getD .nilFunc, .bool (kinds.find? (fun p => p.1 == (k.toNat : Int))).isSome]), false), (Spec.is (((kinds.find? (fun p => p.1 == (k.toNat : Int))).map (·.2)).getD .nilFunc), false), (Spec.is (.bool (kinds.find? (fun p => p.1 == (k.toNat : Int))).isSome), false), (Spec.is (((kinds.find? (fun p => p.1 == (k.toNat : Int))).map (·.2)).getD .nilFunc), false), (Spec.is (.bool (kinds.find? (fun p => p.1 == (k.toNat : Int))).isSome), false)] 46 (by kernel_rfl) rfl (by decide) rfl (by decide) (by kernel_rfl) ?_ ?_
  · refine ⟨?_, ?_, ?_, ?_, ?_, ?_, ?_, ?_, ?_, trivial⟩
    · intro a W hE hb hs
      refine flow0 rfl ?_
      exact val_call 39 _ _ rfl (by kernel_rfl) [] (by show [] = _; rw []) ((readers_any W).mono (by rintro e W' ⟨rfl, hM, hb⟩; exact ⟨_, rfl, hb, ⟨_, rfl, hM⟩, trivial⟩))
    · intro a W hE hb hs
      have h2 : a.eval (.tmp 2) = .pointer (some ⟨w.heap.size, 0, none⟩) := hb 2 (by decide)
      refine flow0 rfl ?_
      intro K hK
      unfold Oper.wp execOp
      simp only [h2]
      simp [go_sem]
      exact hK _ _ ⟨Below.refl _ _, rfl, trivial⟩
    · intro a W hE hb hs
      have h20 : a.eval (.tmp 20) = .pointer (some ⟨w.heap.size, 0, none⟩) := hs 1 (by decide)
      refine flow0 rfl ?_
      have c0 : W.cell? ⟨w.heap.size, 0, none⟩ = some (.int .i64 (k.toNat : Int)) := by rw [(HP5.out.below (ext_below hE) HP5.out.lt).cell]; rfl
      intro K hK
      unfold Oper.wp execOp
      simp only [h20]
      simp [go_sem, c0]
      exact hK _ _ ⟨Below.refl _ _, rfl, trivial⟩
    · intro a W hE hb hs
      have h19 : ∃ mb, (a.eval (.tmp 19)) = .map (some mb) ∧ MapI W mb kinds := hs 0 (by decide)
      have h21 : a.eval (.tmp 21) = .int .i64 (k.toNat : Int) := hs 2 (by decide)
      refine flow0 rfl ?_
      obtain ⟨mb, e19, hM⟩ := h19
      intro K hK
      unfold Oper.wp execOp
      simp only [e19, h21]
      simp [go_sem, run_lookupI hM 83 3 _ Try.underlying83 Try.underlying3 .nilFunc zero81]
      exact hK _ _ ⟨Below.refl _ _, rfl, trivial⟩
    · intro a W hE hb hs
      have h22 : a.eval (.tmp 22) = .tuple #[((kinds.find? (fun p => p.1 == (k.toNat : Int))).map (·.2)).getD .nilFunc, .bool (kinds.find? (fun p => p.1 == (k.toNat : Int))).isSome] := hs 3 (by decide)
      refine flow0 rfl ?_
      exact val_move _ rfl _ h22 ⟨rfl, trivial⟩
    · intro a W hE hb hs
      have h18 : a.eval (.tmp 18) = .tuple #[((kinds.find? (fun p => p.1 == (k.toNat : Int))).map (·.2)).getD .nilFunc, .bool (kinds.find? (fun p => p.1 == (k.toNat : Int))).isSome] := hs 4 (by decide)
      refine flow0 rfl ?_
      intro K hK
      unfold Oper.wp execOp
      simp only [h18]
      simp [go_sem]
      exact hK _ _ ⟨Below.refl _ _, rfl, trivial⟩
    · intro a W hE hb hs
      have h18 : a.eval (.tmp 18) = .tuple #[((kinds.find? (fun p => p.1 == (k.toNat : Int))).map (·.2)).getD .nilFunc, .bool (kinds.find? (fun p => p.1 == (k.toNat : Int))).isSome] := hs 4 (by decide)
      refine flow0 rfl ?_
      intro K hK
      unfold Oper.wp execOp
      simp only [h18]
      simp [go_sem]
      exact hK _ _ ⟨Below.refl _ _, rfl, trivial⟩
    · intro a W hE hb hs
      have h23 : a.eval (.tmp 23) = ((kinds.find? (fun p => p.1 == (k.toNat : Int))).map (·.2)).getD .nilFunc := hs 5 (by decide)
      refine flow0 rfl ?_
      exact val_assign _ rfl _ h23 ⟨rfl, trivial⟩
    · intro a W hE hb hs
      have h24 : a.eval (.tmp 24) = .bool (kinds.find? (fun p => p.1 == (k.toNat : Int))).isSome := hs 6 (by decide)
      refine flow0 rfl ?_
      exact val_assign _ rfl _ h24 ⟨rfl, trivial⟩
  intro f6 w6 hb6 hT _ _
  have e5 : f6 5 = ((kinds.find? (fun p => p.1 == (k.toNat : Int))).map (·.2)).getD .nilFunc := hT 7 (by decide)
  have e6 : f6 6 = .bool (kinds.find? (fun p => p.1 == (k.toNat : Int))).isSome := hT 8 (by decide)
  rw [(kinds_at k.toNat).1] at e5
  rw [(kinds_at k.toNat).2] at e6
  simp only [putV, List.foldl_cons, List.foldl_nil, Act.put, List.setIfInBounds_toArray, List.set_cons_succ, List.set_cons_zero, Exit.then]
  rw [e5, e6]
  have hP6 := HP5.out.below hb6 HP5.out.lt
  have hE6 := HE5.out.below hb6 HE5.out.lt
  have hS6 := HS5.out.only_below hb6
  have hB6 : Below w.heap.size w w6 := HB1.out.trans ((HO4.out.below (by omega) HB1.out.size).trans ((KeptIn.below HK5.out fun q hq => by omega).trans (hb6.mono (by have := HB1.out.size; have := HO4.out.size; have := HK5.out.size; omega))))
  have u6 : w6.cell? ⟨w.heap.size, 1, none⟩ = some (.int .i64 (u.toNat : Int)) := by rw [hP6.cell]; rfl
  have HP6 := Lib.hid hP6
  have HE6 := Lib.hid hE6
  have HS6 := Lib.hid hS6
  have HB6 := Lib.hid hB6
  clear hP6 hE6 hS6 hB6 hb6 hT e5 e6 HP5 HE5 HS5 HK5 HW5 HO4 HB1 HS4 HP4 HE4
  rcases hf : fnOf k.toNat with _ | fk
  · have hn : parP (k :: u :: n :: bs) = none := by
      show (if _ then none else (tailR _ _ _ _).bind _) = none
      rw [tail_none hf]
      split <;> rfl
    go_wp2_with fail
    exact parse_door rfl rfl HP6.out HE6.out HB6.out hn
  by_cases hu8 : 8 ≤ u.toNat
  · have hn : parP (k :: u :: n :: bs) = none := by
      show (if _ then none else _) = none
      rw [if_pos hu8]
    go_wp2_with fail
    exact parse_door rfl rfl HP6.out HE6.out HB6.out hn
  have h7 := tail_any (w.heap.size + 1 + 1) w.heap.size k.toNat u.toNat n.toNat bs w6 hf HS6.out HP6.out
  have hp : parP (k :: u :: n :: bs) = (tailR k.toNat u.toNat n.toNat bs).bind fun x => if x.2 = [] then some x.1 else none := by
    show (if _ then none else _) = _
    rw [if_neg hu8]
  have hk4 : fk = 54 ∨ fk = 55 ∨ fk = 56 ∨ fk = 57 := by
    unfold fnOf at hf
    repeat' split at hf
    all_goals first | (cases hf; simp) | contradiction
  clear hf
  dsimp only [fnV]
  have HR : ∀ {e : Ending} {w7 : World}, TailQ (w.heap.size + 1 + 1) w.heap.size k.toNat u.toNat n.toNat bs w6 e w7 → Below w.heap.size w w7 ∧ Blk w7 (w.heap.size + 1) 40 #[.int .i64 0] := fun {e w7} h =>
    ⟨HB6.out.trans (h.2.below (by omega) (by omega) HB6.out.size), h.2.blk HE6.out (by omega) (by omega)⟩
  rcases hk4 with rfl | rfl | rfl | rfl
  all_goals
    go_wp2_with fail
    refine h7.mono ?_
    rintro e w7 hq
    obtain ⟨hb7, hE7⟩ := HR hq
    obtain ⟨hm, ho⟩ := hq
    cases ht : tailR k.toNat u.toNat n.toNat bs with
    | none =>
      rw [ht] at hm hp
      obtain ⟨rfl, _, _, _, _, hP7⟩ := hm
      exact parse_door rfl rfl hP7 hE7 hb7 hp
    | some x =>
      rw [ht] at hm hp
      obtain ⟨p, t⟩ := x
      obtain ⟨rfl, hS7, hk, hu, hn, vd, vp, vb, vs, hP7, hv⟩ := hm
      obtain ⟨A7, c7, hR7, -, -, -⟩ := hS7
      have r7 : w7.cell? ⟨w.heap.size + 1 + 1, 0, none⟩ = some (.slice A7 t.length c7) := by rw [hR7.cell]; rfl
      have HP7 := Lib.hid hP7
      have HE7 := Lib.hid hE7
      have HB7 := Lib.hid hb7
      have HV7 := Lib.hid hv
      clear hP7 hE7 hb7 hv hR7 h7 HP6 HE6 HS6 HB6 HR
      rcases t with _ | ⟨y, t⟩
      · have p0 : w7.cell? ⟨w.heap.size, 0, none⟩ = some (.int .i64 (k.toNat : Int)) := by rw [HP7.out.cell]; rfl
        have p1 : w7.cell? ⟨w.heap.size, 1, none⟩ = some (.int .i64 (u.toNat : Int)) := by rw [HP7.out.cell]; rfl
        have p2 : w7.cell? ⟨w.heap.size, 2, none⟩ = some (.int .i64 (n.toNat : Int)) := by rw [HP7.out.cell]; rfl
        have p3 : w7.cell? ⟨w.heap.size, 3, none⟩ = some (vd) := by rw [HP7.out.cell]; rfl
        have p4 : w7.cell? ⟨w.heap.size, 4, none⟩ = some (vp) := by rw [HP7.out.cell]; rfl
        have p5 : w7.cell? ⟨w.heap.size, 5, none⟩ = some (vb) := by rw [HP7.out.cell]; rfl
        have p6 : w7.cell? ⟨w.heap.size, 6, none⟩ = some (vs) := by rw [HP7.out.cell]; rfl
        have one7 : ∀ v ∈ (pkC (k.toNat : Int) (u.toNat : Int) (n.toNat : Int) vd vp vb vs), v.oneCell' = true := by
          obtain ⟨⟨_, _, rfl, _⟩, ⟨_, _, rfl, _⟩, ⟨_, _, rfl, _⟩, ⟨_, _, rfl, _⟩⟩ := HV7.out
          intro v hv
          simp only [pkC, List.mem_cons, List.not_mem_nil, or_false] at hv
          rcases hv with rfl | rfl | rfl | rfl | rfl | rfl | rfl <;> rfl
        have e8 : w7.cell? ⟨w.heap.size + 1, 0, none⟩ = some (.int .i64 0) := by rw [HE7.out.cell]; rfl
        have z8 := HE7.out.frozen 0
        go_wp2_with (first | (refine wpList_store_row rfl 39 (.tmp 2) (.tmp 45) rfl w.heap.size (pkC (k.toNat : Int) (u.toNat : Int) (n.toNat : Int) vd vp vb vs).toArray rfl rfl 39 _ HP7.out (size39p _ rfl) rfl (all_oneCell_toArray one7) ?_; rw [setRow_same HP7.out]))
        rw [setCell_same HE7.out rfl]
        exact parse_end rfl rfl HP7.out HE7.out HB7.out hp hk hu hn HV7.out
      · have hy : 0 < (y :: t).length := by simp
        go_wp2_with fail
        exact parse_door rfl rfl HP7.out HE7.out HB7.out (by rw [hp]; show (if (y :: t) = [] then some p else none) = none; simp)
end Go.Proofs.Yteofgkdpknaapaa
