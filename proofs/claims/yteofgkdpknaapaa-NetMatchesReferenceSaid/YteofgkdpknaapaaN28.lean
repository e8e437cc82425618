/- Package net: what a packet is made of; the reference's signature. -/
import Derived.Test.YteofgkdpknaapaaN27
import Derived.Test.YteofgkdpknaapaaFlowT
namespace Go.Proofs.Yteofgkdpknaapaa
open Go.RowKit Go.Sort

/-- What a packet is made of. -/
structure Rw where
  (k u n : UInt8) (data : List UInt8) (m : UInt8)
/-- .. as it lies in a row. -/
def rwC (x : Rw) (D : Option Addr) (dn dc : Nat) : List Value := [.int .u8 (x.k.toNat : Int), .int .u8 (x.u.toNat : Int), .int .u8 (x.n.toNat : Int), .slice D dn dc, .int .u8 (x.m.toNat : Int)]
theorem rwC_len (x : Rw) (D : Option Addr) (dn dc : Nat) : (rwC x D dn dc).length = 5 := rfl
/-- A hash with two bytes. -/
def shB (a b : UInt8) : Sum32 := ⟨a :: b :: List.replicate 30 0, rfl⟩
theorem builtSum2 (a b : UInt8) : Try.prog.built 93 [(0, .int .u8 (a.toNat : Int)), (1, .int .u8 (b.toNat : Int))] = some (sumC (shB a b)).toArray := by kernel_rfl
def shL (n : Nat) (b : UInt8) : List Sum32 := (List.range n).map fun i => shB (UInt8.ofNat i) b
theorem shL_succ (n : Nat) (b : UInt8) : shL (n + 1) b = shL n b ++ [shB (UInt8.ofNat n) b] := by simp [shL, List.range_succ]
theorem shL_len (n : Nat) (b : UInt8) : (shL n b).length = n := by simp [shL]
def sigL (x : Rw) : Sg := ⟨((x.n.toNat % 2 ^ (x.m.toNat % 5) : Nat) : Int), shL 67 x.u, shL (x.m.toNat % 5) x.k⟩
theorem sigL_formed (x : Rw) : formedS (sigL x) = true := by
  unfold formedS sigL
  have h1 := shL_len 67 x.u
  have h2 := shL_len (x.m.toNat % 5) x.k
  refine decide_eq_true ⟨h1, by show (shL _ _).length ≤ 4; rw [h2]; omega, by show (0 : Int) ≤ ((x.n.toNat % 2 ^ (x.m.toNat % 5) : Nat) : Int); omega, ?_⟩
  show ((x.n.toNat % 2 ^ (x.m.toNat % 5) : Nat) : Int) < 2 ^ (shL _ _).length
  rw [h2]
  have : x.n.toNat % 2 ^ (x.m.toNat % 5) < 2 ^ (x.m.toNat % 5) := Nat.mod_lt _ (Nat.pow_pos (by omega))
  exact_mod_cast this
theorem info55 : (Try.prog.info? 55).map (fun i => (i.zero, i.size, i.bytes)) = some (some (.agg (rwC ⟨0, 0, 0, [], 0⟩ none 0 0).toArray), 5, 40) := by kernel_rfl
theorem und55 : ∃ d, Try.prog.underlying 55 = some d ∧ d.isRow = true := by
  obtain ⟨d, h1, h2⟩ := Option.map_eq_some_iff.1 (show (Try.prog.underlying 55).map (·.isRow) = some true by kernel_rfl)
  exact ⟨d, h1, h2⟩
theorem shl5 {m : Nat} (h : m < 5) (W : World) : (binOp .shl 3 (.int .i64 1) (.int .i64 (m : Int))).run Try.prog W = .ok (.int .i64 ((2 ^ m : Nat) : Int)) W := by
  rcases (show m = 0 ∨ m = 1 ∨ m = 2 ∨ m = 3 ∨ m = 4 by omega) with rfl | rfl | rfl | rfl | rfl <;> simp [binOp, go_sem] <;> rfl
theorem rem5 {m n : Nat} (h : m < 5) (W : World) : (binOp .rem 3 (.int .i64 (n : Int)) (.int .i64 ((2 ^ m : Nat) : Int))).run Try.prog W = .ok (.int .i64 ((n % 2 ^ m : Nat) : Int)) W := by
  rcases (show m = 0 ∨ m = 1 ∨ m = 2 ∨ m = 3 ∨ m = 4 by omega) with rfl | rfl | rfl | rfl | rfl <;> simp [binOp, go_sem] <;> (try rw [Int.tmod_eq_emod_of_nonneg (by omega)]) <;> omega
theorem run_bin_op {P : Program} {o : Oper} {a : Act} (op : BinOp) (t : TypeId) (x y : Operand) (t2 : TypeId) (ho : o.op = .binOp op t x y t2) (W : World) (he : (eqGuard op t x y (a.eval x) (a.eval y)).run P W = .ok () W) {u : Value} (hr : (binOp op t (a.eval x) (a.eval y)).run P W = .ok u W) : (execOp a.eval o).run P W = .ok (.value u) W := by
  unfold execOp
  simp only [ho, Sem.run_bind, he, hr, Result.andThen_ok, Sem.run_pure]
def spVar (T : TypeId) (Z : Array Value) : Spec := ⟨fun v W => ∃ B, v = .pointer (some ⟨B, 0, none⟩) ∧ Blk W B T Z, fun _ _ _ ⟨B, h1, h2⟩ hb => ⟨B, h1, h2.below hb h2.lt⟩⟩
set_option maxRecDepth 100000 in
set_option maxHeartbeats 2000000 in
theorem signature_any (x : Rw) (D : Option Addr) (dn dc : Nat) (w : World) :
    Calls Try.prog 44 #[.agg (rwC x D dn dc).toArray] w fun e w' => (∃ (C : Option Addr) (c : Nat) (E : Option Addr) (d : Nat), e = .returned (.agg (sgV (sigL x).i C 67 c E (x.m.toNat % 5) d).toArray) ∧ 67 ≤ c ∧ x.m.toNat % 5 ≤ d ∧ TRd w' 93 32 C 67 ((sigL x).ch.flatMap sumC) ∧ TRd w' 93 32 E (x.m.toNat % 5) ((sigL x).pa.flatMap sumC)) ∧ Below w.heap.size w w' := by
  obtain ⟨m, hm⟩ : ∃ m, m = x.m.toNat % 5 := ⟨_, rfl⟩
  have hm5 : m < 5 := by omega
  obtain ⟨i37, hi37, hz37, _, _⟩ := info_parts info37
  obtain ⟨w1, hw1⟩ : ∃ q, q = (w.alloc (.cells (rwC x D dn dc).toArray 55)).alloc (.cells (sgV 0 none 0 0 none 0 0).toArray 95) := ⟨_, rfl⟩
  have hB1 : Below w.heap.size w w1 := by rw [hw1]; exact ((Below.refl _ _).alloc (Nat.le_refl _) _).alloc (by simp) _
  have hX1 : Blk w1 w.heap.size 55 (rwC x D dn dc).toArray := by rw [hw1]; exact (Blk.new _ _ _).alloc _
  have hR1 : Blk w1 (w.heap.size + 1) 95 (sgV 0 none 0 0 none 0 0).toArray := by
    have := Blk.new (w.alloc (.cells (rwC x D dn dc).toArray 55)) 95 (sgV 0 none 0 0 none 0 0).toArray
    rw [World.size_alloc] at this
    rw [hw1]; exact this
  have x0 : w1.cell? ⟨w.heap.size, 0, none⟩ = some (.int .u8 (x.k.toNat : Int)) := (hX1.cell 0).trans rfl
  have x1 : w1.cell? ⟨w.heap.size, 1, none⟩ = some (.int .u8 (x.u.toNat : Int)) := (hX1.cell 1).trans rfl
  have x2 : w1.cell? ⟨w.heap.size, 2, none⟩ = some (.int .u8 (x.n.toNat : Int)) := (hX1.cell 2).trans rfl
  have x4 : w1.cell? ⟨w.heap.size, 4, none⟩ = some (.int .u8 (x.m.toNat : Int)) := (hX1.cell 4).trans rfl
  have hmr : (x.m.toNat : Int) % 5 = (m : Int) := by rw [hm]; omega
  have HW1 := Lib.hid hw1
  have HX := Lib.hid hX1
  have HR := Lib.hid hR1
  have HB := Lib.hid hB1
  have HM := Lib.hid hm
  have hnw : IntKind.i64.wrap (x.n.toNat : Int) = (x.n.toNat : Int) := by rw [IntKind.wrap_i64]; have := x.n.toNat_lt; omega
  rw [← hm]
  clear hw1 hX1 hR1 hB1 hm
  go_enter Try.func44, Try.ntmps44
  go_upto_region 1 with (refine wpList_alloc0 rfl 95 rfl (sgV 0 none 0 0 none 0 0).toArray _ i37 hi37 hz37 rfl ?_; simp only [Act.put, List.setIfInBounds_toArray, List.set_cons_succ, List.set_cons_zero])
  rw [← HW1.out]
  try simp only [World.size_alloc]
  go_upto_region 2 with fail
  refine wp_region_flow_tail 8 [11, 12, 13, 14, 15, 16, 17, 4] [(Spec.is (.pointer (some ⟨w.heap.size, 2, none⟩)), false), (Spec.is (.int .u8 (x.n.toNat : Int)), false), (Spec.is (.int .i64 (x.n.toNat : Int)), false), (Spec.is (.int .i64 (m : Int)), false), (Spec.is (.int .i64 ((2 ^ m : Nat) : Int)), false), (Spec.is (.int .i64 ((x.n.toNat % 2 ^ m : Nat) : Int)), false), (Spec.is (.agg (sgV ((x.n.toNat % 2 ^ m : Nat) : Int) none 0 0 none 0 0).toArray), false), (spVar 95 (sgV 0 none 0 0 none 0 0).toArray, true)] 48 (by kernel_rfl) (List.take_append_drop _ _) rfl (by kernel_rfl) (by kernel_rfl) (by kernel_rfl) (by decide) (by kernel_rfl) (by kernel_rfl) (fun _ _ d _ _ h => by cases d <;> exact h) rfl (by decide) rfl (by decide) (by kernel_rfl) ?_ ?_
  · refine ⟨?_, ?_, ?_, ?_, ?_, ?_, ?_, ?_, trivial⟩
    · intro a W hE hb hs
      have h1 : a.eval (.tmp 1) = .pointer (some ⟨w.heap.size, 0, none⟩) := hb 1 (by decide)
      refine flow0 rfl ?_
      intro K hK
      unfold Oper.wp execOp
      simp only [h1]
      simp [go_sem]
      exact hK _ _ ⟨Below.refl _ _, rfl, trivial⟩
    · intro a W hE hb hs
      have h11 : a.eval (.tmp 11) = .pointer (some ⟨w.heap.size, 2, none⟩) := hs 0 (by decide)
      refine flow0 rfl ?_
      have c0 : W.cell? ⟨w.heap.size, 2, none⟩ = some (.int .u8 (x.n.toNat : Int)) := ((HX.out.below (ext_below hE) HX.out.lt).cell 2).trans rfl
      intro K hK
      unfold Oper.wp execOp
      simp only [h11]
      simp [go_sem, c0]
      exact hK _ _ ⟨Below.refl _ _, rfl, trivial⟩
    · intro a W hE hb hs
      have h12 : a.eval (.tmp 12) = .int .u8 (x.n.toNat : Int) := hs 1 (by decide)
      refine flow0 rfl ?_
      intro K hK
      unfold Oper.wp execOp
      simp only [h12]
      simp [go_sem, hnw]
      exact hK _ _ ⟨Below.refl _ _, rfl, trivial⟩
    · intro a W hE hb hs
      have h3 : a.eval (.tmp 3) = .int .i64 (m : Int) := hb 3 (by decide)
      refine flow0 rfl ?_
      exact val_move _ rfl _ h3 ⟨rfl, trivial⟩
    · intro a W hE hb hs
      have h14 : a.eval (.tmp 14) = .int .i64 (m : Int) := hs 3 (by decide)
      refine flow0 rfl ?_
      exact val_run _ (run_bin_op .shl 3 (.const (.int .i64 1)) (.tmp 14) 3 rfl W rfl (by rw [h14]; exact shl5 hm5 W)) ⟨rfl, trivial⟩
    · intro a W hE hb hs
      have h13 : a.eval (.tmp 13) = .int .i64 (x.n.toNat : Int) := hs 2 (by decide)
      have h15 : a.eval (.tmp 15) = .int .i64 ((2 ^ m : Nat) : Int) := hs 4 (by decide)
      refine flow0 rfl ?_
      exact val_run _ (run_bin_op .rem 3 (.tmp 13) (.tmp 15) 3 rfl W rfl (by rw [h13, h15]; exact rem5 hm5 W)) ⟨rfl, trivial⟩
    · intro a W hE hb hs
      have h16 : a.eval (.tmp 16) = .int .i64 ((x.n.toNat % 2 ^ m : Nat) : Int) := hs 5 (by decide)
      refine flow0 rfl ?_
      exact val_build 95 _ rfl [(0, .int .i64 ((x.n.toNat % 2 ^ m : Nat) : Int))] (by show [(0, a.eval (.tmp 16))] = _; rw [h16]) _ (built37i _) ⟨rfl, trivial⟩
    · intro a W hE hb hs
      refine flow0 rfl ?_
      exact val_alloc _ rfl (sgV 0 none 0 0 none 0 0).toArray _ i37 hi37 hz37 rfl ⟨⟨_, rfl, Blk.new _ _ _⟩, _, rfl, Nat.le_refl _, by rw [World.size_alloc]; omega⟩
  · intro f W hb hT hp hd
    have e17 : f 17 = .agg (sgV ((x.n.toNat % 2 ^ m : Nat) : Int) none 0 0 none 0 0).toArray := hT 6 (by decide)
    obtain ⟨S, eS, hS⟩ : ∃ B, f 4 = .pointer (some ⟨B, 0, none⟩) ∧ Blk W B 95 (sgV 0 none 0 0 none 0 0).toArray := hT 7 (by decide)
    have lS : w1.heap.size ≤ S := by
      obtain ⟨b', h1, h2, _⟩ := hp 7 (by decide) rfl
      have h1' : f 4 = .pointer (some ⟨b', 0, none⟩) := h1
      rw [eS] at h1'
      injection h1' with h; injection h with h; injection h with h
      omega
    simp only [putV, List.foldl_cons, List.foldl_nil, Act.put, List.setIfInBounds_toArray, List.set_cons_succ, List.set_cons_zero]
    rw [e17, eS]
    obtain ⟨w3, hw3⟩ : ∃ q, q = W.setRow S (sgV ((x.n.toNat % 2 ^ m : Nat) : Int) none 0 0 none 0 0).toArray := ⟨_, rfl⟩
    have hS3 : Blk w3 S 95 (sgV ((x.n.toNat % 2 ^ m : Nat) : Int) none 0 0 none 0 0).toArray := by rw [hw3]; exact setRow_heap _ _ _ _ _ _ hS
    have hk3 : KeptIn (fun q => q ≠ S) W w3 := by rw [hw3]; exact (KeptIn.refl (fun q => q ≠ S) W).setRow (g := S) (fun h => h rfl) _
    have hsz1 : w.heap.size + 1 < w1.heap.size := HR.out.lt
    have HX3 := Lib.hid ((HX.out.below hb HX.out.lt).keptIn hk3 (by omega))
    have HR3 := Lib.hid ((HR.out.below hb HR.out.lt).keptIn hk3 (by omega))
    have HB3 := Lib.hid (show Below w.heap.size w w3 from HB.out.trans ((hb.mono HB.out.size).trans (KeptIn.below hk3 fun q hq => by omega)))
    have HS3 := Lib.hid hS3
    have HS0 := Lib.hid hS
    have HW3 := Lib.hid hw3
    have hsz3 : w.heap.size + 1 < w3.heap.size := by have := HR3.out.lt; omega
    have hszS : S < w3.heap.size := hS3.lt
    obtain ⟨i32, hi32, hz32, hs32, hy32⟩ := info_parts info32
    obtain ⟨d37, hd37, hrow37⟩ := und37
    clear hb hT hp hd e17 eS hS hS3 hk3 hw3 HX HR HB x0 x1 x2 x4 hnw
    go_upto_region 4 with (refine wpList_store_row rfl 95 (.tmp 4) (.tmp 17) rfl S (sgV ((x.n.toNat % 2 ^ m : Nat) : Int) none 0 0 none 0 0).toArray rfl rfl 95 _ HS0.out (size37 _ rfl) rfl (sg_one _ _ _ _ _ _ _) ?_; rw [← HW3.out])
    clear HS0 HW3
    go_loopw [5] (fun v5 wr => ∃ j : Nat, v5 = .int .i64 (j : Int) ∧ j ≤ 67 ∧ (∃ (C' : Option Addr) (k' : Nat), Blk wr S 95 (sgV ((x.n.toNat % 2 ^ m : Nat) : Int) C' j k' none 0 0).toArray ∧ AppZ wr w3.heap.size 93 32 (.slice C' j k') j ((shL j x.u).flatMap sumC)) ∧ KeptIn (fun q => q ≠ S ∧ q < w3.heap.size) w3 wr) (fun v5 _ => 67 - (intOf v5).toNat)
    case atStart => exact ⟨0, rfl, Nat.zero_le _, ⟨none, 0, HS3.out, AppZ.nil _⟩, KeptIn.refl _ _⟩
    case round =>
      obtain ⟨j, rfl, hj, ⟨C', k', hS, happ⟩, hK⟩ := hrel
      have hXr := HX3.out.keptIn hK ⟨by omega, by omega⟩
      have xr : wr.cell? ⟨w.heap.size, 1, none⟩ = some (.int .u8 (x.u.toNat : Int)) := (hXr.cell 1).trans rfl
      have cS : wr.cell? ⟨S, 1, none⟩ = some (.slice C' j k') := (hS.cell 1).trans rfl
      have hszr : w3.heap.size ≤ wr.heap.size := hK.size
      by_cases hlt : j < 67
      · have dj : decide ((j : Int) < (67 : Int)) = true := decide_eq_true (by omega)
        have hjn : (j : Int) < (67 : Int) := by omega
        have hjb : j < 256 := by omega
        obtain ⟨sh, hsh⟩ : ∃ q, q = shB (UInt8.ofNat j) x.u := ⟨_, rfl⟩
        have hbuilt : Try.prog.built 93 [(0, .int .u8 (j : Int)), (1, .int .u8 (x.u.toNat : Int))] = some (sumC sh).toArray := by
          have h := builtSum2 (UInt8.ofNat j) x.u
          rw [u8_nat hjb, ← hsh] at h
          exact h
        obtain ⟨w6, hw6⟩ : ∃ q, q = wr.alloc (.cells (sumC sh).toArray 93) := ⟨_, rfl⟩
        have hb6 : Below wr.heap.size wr w6 := by rw [hw6]; exact (Below.refl _ _).alloc (Nat.le_refl _) _
        have hX6 : Blk w6 wr.heap.size 93 (sumC sh).toArray := by rw [hw6]; exact Blk.new _ _ _
        have hs6 : w3.heap.size ≤ w6.heap.size := by have := hb6.size; omega
        have Ha6 := Lib.hid (happ.below hb6 (Nat.le_refl _))
        have Hr6 := Lib.hid (rd32_one hX6)
        have HS6 := Lib.hid (hS.below hb6 hS.lt)
        have HW6 := Lib.hid hw6
        have HK6 := Lib.hid (hK.trans (KeptIn.of_below (S := fun q => q ≠ S ∧ q < w3.heap.size) hb6 fun q hq => by omega))
        have Hsh := Lib.hid (show (shL (j + 1) x.u).flatMap sumC = (shL j x.u).flatMap sumC ++ sumC sh by rw [shL_succ, List.flatMap_append, hsh]; simp)
        clear hS happ hK hXr hsh hw6 hb6 hX6
        go_wp2_with (first | (refine wpList_buildN rfl 93 _ rfl [(0, .int .u8 (j : Int)), (1, .int .u8 (x.u.toNat : Int))] rfl _ hbuilt ?_) | (refine wpList_build1s rfl 34 93 (.tmp 28) rfl (sumC sh).toArray i32 _ 32 Try.underlying34 hi32 hz32 hs32 (by omega) (by decide) rfl (sum_size _) ?_; rw [← HW6.out]) | (at_builtin; refine wpList_appz rfl (.tmp 23) (.tmp 29) 34 rfl 93 i32 _ 32 32 Try.underlying34 hi32 hz32 hs32 hy32 rfl (by omega) w3.heap.size hs6 _ _ _ rfl Ha6.out (some ⟨wr.heap.size, 0, none⟩) 1 1 (sumC sh) rfl Hr6.out (oneB _) (by unfold maxLen; omega) (by omega) ?_; intro v' w7 ha7 hg7; obtain ⟨C7, k7, rfl, hk7, _⟩ := ha7.rd; have hS7 := HS6.out.kept hg7 (fun e => (by have := (Ha6.out.lt S e.symm).1; omega)); have c7 : w7.cell? ⟨S, 1, none⟩ = some (.slice C' j k') := (hS7.cell 1).trans rfl; have z7 := hS7.frozen 1; have HS7 := Lib.hid hS7; have Ha7 := Lib.hid ha7; have Hg7 := Lib.hid hg7; clear hS7 ha7 hg7))
        have hS8 := heap_setCell_same w7 S 1 _ _ (.slice C7 (j + 1) k7) HS7.out
        have hk8 : KeptIn (fun q => q ≠ S ∧ q < w3.heap.size) w3 (w7.setCell ⟨S, 1, none⟩ (.slice C7 (j + 1) k7)) := (KeptIn.grown HK6.out Hg7.out (fun q hq => by omega) (fun q e hq => by have := (Ha6.out.lt q e).1; omega)).trans ((KeptIn.refl (fun q => q ≠ S ∧ q < w3.heap.size) w7).setAt (fun hk => hk.1 rfl) _)
        refine ⟨⟨j + 1, by push_cast; rfl, by omega, ⟨C7, k7, hS8, ?_⟩, hk8⟩, by simp only [intOf]; omega⟩
        rw [Hsh.out]
        exact AppZ.setAt Ha7.out HS7.out (by decide)
      · have dj : decide ((j : Int) < (67 : Int)) = false := decide_eq_false (by omega)
        have hjn : ¬ (j : Int) < (67 : Int) := by omega
        obtain rfl : j = 67 := by omega
        have hX5 := hXr
        have hR5 := HR3.out.keptIn hK ⟨by omega, by omega⟩
        have hB5 : Below w.heap.size w wr := HB3.out.trans (KeptIn.below hK fun q hq => ⟨by omega, by have := HB3.out.size; omega⟩)
        obtain ⟨C5, hC5'⟩ : ∃ q, q = C' := ⟨_, rfl⟩
        obtain ⟨k5, hk5'⟩ : ∃ q, q = k' := ⟨_, rfl⟩
        subst hC5' hk5'
        have hk67 : 67 ≤ k5 := by obtain ⟨_, _, e, h, _⟩ := happ.rd; cases e; exact h
        have hC5 := happ.trd
        have HX5 := Lib.hid hX5
        have HR5 := Lib.hid hR5
        have HB5 := Lib.hid hB5
        have HC5 := Lib.hid hC5
        have HS5 := Lib.hid hS
        have hszS : S < wr.heap.size := hS.lt
        clear hS happ hK hXr hX5 hR5 hB5 hC5 HX3 HR3 HB3
        go_upto_region 8 with fail
        obtain ⟨wo, hwo⟩ : ∃ wo, wo = wr := ⟨_, rfl⟩
        subst hwo
        have hsz5 : w.heap.size + 1 < wo.heap.size := by omega
        go_loopw [6] (fun v6 wr => ∃ j : Nat, v6 = .int .i64 (j : Int) ∧ j ≤ m ∧ (∃ (C' : Option Addr) (k' : Nat), Blk wr S 95 (sgV ((x.n.toNat % 2 ^ m : Nat) : Int) C5 67 k5 C' j k').toArray ∧ AppZ wr wo.heap.size 93 32 (.slice C' j k') j ((shL j x.k).flatMap sumC)) ∧ KeptIn (fun q => q ≠ S ∧ q < wo.heap.size) wo wr) (fun v6 _ => m - (intOf v6).toNat)
        case atStart => exact ⟨0, rfl, Nat.zero_le _, ⟨none, 0, HS5.out, AppZ.nil _⟩, KeptIn.refl _ _⟩
        case round =>
          obtain ⟨j, rfl, hj, ⟨C', k', hS, happ⟩, hK⟩ := hrel
          have hXr := HX5.out.keptIn hK ⟨by omega, by omega⟩
          have xr : wr.cell? ⟨w.heap.size, 0, none⟩ = some (.int .u8 (x.k.toNat : Int)) := (hXr.cell 0).trans rfl
          have cS : wr.cell? ⟨S, 2, none⟩ = some (.slice C' j k') := (hS.cell 2).trans rfl
          have hszr : wo.heap.size ≤ wr.heap.size := hK.size
          by_cases hlt : j < m
          · have dj : decide ((j : Int) < (m : Int)) = true := decide_eq_true (by omega)
            have hjn : (j : Int) < (m : Int) := by omega
            have hjb : j < 256 := by omega
            obtain ⟨sh, hsh⟩ : ∃ q, q = shB (UInt8.ofNat j) x.k := ⟨_, rfl⟩
            have hbuilt : Try.prog.built 93 [(0, .int .u8 (j : Int)), (1, .int .u8 (x.k.toNat : Int))] = some (sumC sh).toArray := by
              have h := builtSum2 (UInt8.ofNat j) x.k
              rw [u8_nat hjb, ← hsh] at h
              exact h
            obtain ⟨w6, hw6⟩ : ∃ q, q = wr.alloc (.cells (sumC sh).toArray 93) := ⟨_, rfl⟩
            have hb6 : Below wr.heap.size wr w6 := by rw [hw6]; exact (Below.refl _ _).alloc (Nat.le_refl _) _
            have hX6 : Blk w6 wr.heap.size 93 (sumC sh).toArray := by rw [hw6]; exact Blk.new _ _ _
            have hs6 : wo.heap.size ≤ w6.heap.size := by have := hb6.size; omega
            have Ha6 := Lib.hid (happ.below hb6 (Nat.le_refl _))
            have Hr6 := Lib.hid (rd32_one hX6)
            have HS6 := Lib.hid (hS.below hb6 hS.lt)
            have HW6 := Lib.hid hw6
            have HK6 := Lib.hid (hK.trans (KeptIn.of_below (S := fun q => q ≠ S ∧ q < wo.heap.size) hb6 fun q hq => by omega))
            have Hsh := Lib.hid (show (shL (j + 1) x.k).flatMap sumC = (shL j x.k).flatMap sumC ++ sumC sh by rw [shL_succ, List.flatMap_append, hsh]; simp)
            clear hS happ hK hXr hsh hw6 hb6 hX6
            go_wp2_with (first | (refine wpList_buildN rfl 93 _ rfl [(0, .int .u8 (j : Int)), (1, .int .u8 (x.k.toNat : Int))] rfl _ hbuilt ?_) | (refine wpList_build1s rfl 34 93 (.tmp 43) rfl (sumC sh).toArray i32 _ 32 Try.underlying34 hi32 hz32 hs32 (by omega) (by decide) rfl (sum_size _) ?_; rw [← HW6.out]) | (at_builtin; refine wpList_appz rfl (.tmp 38) (.tmp 44) 34 rfl 93 i32 _ 32 32 Try.underlying34 hi32 hz32 hs32 hy32 rfl (by omega) wo.heap.size hs6 _ _ _ rfl Ha6.out (some ⟨wr.heap.size, 0, none⟩) 1 1 (sumC sh) rfl Hr6.out (oneB _) (by unfold maxLen; omega) (by omega) ?_; intro v' w7 ha7 hg7; obtain ⟨C7, k7, rfl, hk7, _⟩ := ha7.rd; have hS7 := HS6.out.kept hg7 (fun e => (by have := (Ha6.out.lt S e.symm).1; omega)); have c7 : w7.cell? ⟨S, 2, none⟩ = some (.slice C' j k') := (hS7.cell 2).trans rfl; have z7 := hS7.frozen 2; have HS7 := Lib.hid hS7; have Ha7 := Lib.hid ha7; have Hg7 := Lib.hid hg7; clear hS7 ha7 hg7))
            have hS8 := heap_setCell_same w7 S 2 _ _ (.slice C7 (j + 1) k7) HS7.out
            have hk8 : KeptIn (fun q => q ≠ S ∧ q < wo.heap.size) wo (w7.setCell ⟨S, 2, none⟩ (.slice C7 (j + 1) k7)) := (KeptIn.grown HK6.out Hg7.out (fun q hq => by omega) (fun q e hq => by have := (Ha6.out.lt q e).1; omega)).trans ((KeptIn.refl (fun q => q ≠ S ∧ q < wo.heap.size) w7).setAt (fun hk => hk.1 rfl) _)
            refine ⟨⟨j + 1, by push_cast; rfl, by omega, ⟨C7, k7, hS8, ?_⟩, hk8⟩, by simp only [intOf]; omega⟩
            rw [Hsh.out]
            exact AppZ.setAt Ha7.out HS7.out (by decide)
          · have dj : decide ((j : Int) < (m : Int)) = false := decide_eq_false (by omega)
            have hjn : ¬ (j : Int) < (m : Int) := by omega
            obtain rfl : j = m := by omega
            obtain ⟨E, hE'⟩ : ∃ q, q = C' := ⟨_, rfl⟩
            obtain ⟨kE, hkE'⟩ : ∃ q, q = k' := ⟨_, rfl⟩
            subst hE' hkE'
            have hkE : j ≤ kE := by obtain ⟨_, _, e, h, _⟩ := happ.rd; cases e; exact h
            have hR2 := HR5.out.keptIn hK ⟨by omega, by omega⟩
            obtain ⟨w9, hw9⟩ : ∃ q, q = wr.setRow (w.heap.size + 1) (sgV ((x.n.toNat % 2 ^ j : Nat) : Int) C5 67 k5 E j kE).toArray := ⟨_, rfl⟩
            have hR9 : Blk w9 (w.heap.size + 1) 95 (sgV ((x.n.toNat % 2 ^ j : Nat) : Int) C5 67 k5 E j kE).toArray := by rw [hw9]; exact setRow_heap _ _ _ _ _ _ hR2
            have hk9 : KeptIn (fun q => q ≠ w.heap.size + 1) wr w9 := by rw [hw9]; exact (KeptIn.refl (fun q => q ≠ w.heap.size + 1) wr).setRow (g := w.heap.size + 1) (fun h => h rfl) _
            have hb9 : Below w.heap.size w w9 := HB5.out.trans ((KeptIn.below hK fun q hq => ⟨by omega, by have := HB5.out.size; omega⟩).trans (KeptIn.below hk9 fun q hq => by omega))
            have hne : ∀ b cur, Blk wr b 93 cur → b ≠ w.heap.size + 1 := fun b cur hb => hb.ne hR2 (by decide)
            have hC9 : TRd w9 93 32 C5 67 ((shL 67 x.u).flatMap sumC) := (HC5.out.keptOn hK fun h0 b off e => ⟨by obtain ⟨cur, hc⟩ := HC5.out.2 h0 b off e; exact hc.ne HS5.out (by decide), HC5.out.1.lt (by omega) h0 e⟩).keptIn hk9 hne
            have hE9 : TRd w9 93 32 E j ((shL j x.k).flatMap sumC) := happ.trd.keptIn hk9 hne
            have Hfin := Lib.hid (show (∃ (C : Option Addr) (c : Nat) (E' : Option Addr) (d : Nat), Ending.returned (.agg (sgV ((x.n.toNat % 2 ^ j : Nat) : Int) C5 67 k5 E j kE).toArray) = .returned (.agg (sgV (sigL x).i C 67 c E' j d).toArray) ∧ 67 ≤ c ∧ j ≤ d ∧ TRd w9 93 32 C 67 ((sigL x).ch.flatMap sumC) ∧ TRd w9 93 32 E' j ((sigL x).pa.flatMap sumC)) ∧ Below w.heap.size w w9 from
              ⟨⟨C5, k5, E, kE, by unfold sigL; rw [← HM.out], hk67, hkE, hC9, by unfold sigL; rw [← HM.out]; exact hE9⟩, hb9⟩)
            have Hrow := Lib.hid (hS.range)
            have HR2 := Lib.hid hR2
            have HR9 := Lib.hid hR9
            have HW9 := Lib.hid hw9
            clear hS happ hK hXr hw9 hR9 hk9 hb9 hne hC9 hE9 hR2
            go_wp2_with (first | (refine wpList_load_mid rfl 95 (.tmp 4) rfl S 0 rfl (sgV ((x.n.toNat % 2 ^ j : Nat) : Int) C5 67 k5 E j kE) d37 Hrow.out hd37 hrow37 (by rw [sgV_len]; kernel_rfl) ?_) | (refine wpList_store_row rfl 95 (.tmp 2) (.tmp 47) rfl (w.heap.size + 1) (sgV ((x.n.toNat % 2 ^ j : Nat) : Int) C5 67 k5 E j kE).toArray rfl rfl 95 _ HR2.out (size37 _ rfl) rfl (sg_one _ _ _ _ _ _ _) ?_; rw [← HW9.out]))
            exact bodyPost_ret (results_cell_row rfl _ _ (w.heap.size + 1) 95 _ (0, 0) _ rfl HR9.out hd37 (by cases d37 <;> first | rfl | (cases hrow37)) (size37 _ rfl)) rfl Hfin.out
        
    
end Go.Proofs.Yteofgkdpknaapaa
