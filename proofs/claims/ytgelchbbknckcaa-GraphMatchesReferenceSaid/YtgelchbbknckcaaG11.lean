/- Package graph's reference: the graph that a description makes. -/
import Derived.Test.YtgelchbbknckcaaG10
namespace Go.Proofs.Ytgelchbbknckcaa
open Go.RowKit Go.Sort

theorem AppZ.keptIn {w w' : World} {base e sz n g t : Nat} {v : Value} {xs : List Value} {old : Array Value} (h : AppZ w base e sz v n xs) (hg : Blk w g t old) (hne : t ≠ e) (hk : KeptIn (fun k => k ≠ g) w w') : AppZ w' base e sz v n xs := by
  have hgr := hk.grownBut
  rcases h with ⟨h1, h2, a, h3, h4, h5⟩ | h
  · exact .inl ⟨h1, h2, a, h3, h4, Nat.lt_of_lt_of_le h5 hgr.size⟩
  · refine .inr (h.kept hgr ?_)
    rcases h.2 with ⟨rfl, _⟩ | ⟨g', cap, cur, rfl, _, hgg, _⟩
    · exact .inl rfl
    · exact .inr fun e' => by
        have : g' = g := by simpa [Value.ownBlock] using e'
        subst this
        exact (Blk.ne hg hgg hne) rfl
/-- Whose block is of a type. -/
def Own (w : World) (e : TypeId) (v : Value) : Prop := ∀ g, v.ownBlock = some g → ∃ cur, Blk w g e cur
theorem Own.keptIn {w w' : World} {e t g : Nat} {v : Value} {old : Array Value} (h : Own w e v) (hg : Blk w g t old) (hne : t ≠ e) (hk : KeptIn (fun k => k ≠ g) w w') : Own w' e v := fun b hb => by
  obtain ⟨cur, hc⟩ := h b hb
  exact ⟨cur, hc.keptIn hk (hc.ne hg (fun e' => hne e'.symm))⟩
theorem Own.below {w w' : World} {e : Nat} {v : Value} (h : Own w e v) (hb : Below w.heap.size w w') : Own w' e v := fun b hv => by
  obtain ⟨cur, hc⟩ := h b hv
  exact ⟨cur, hc.below hb hc.lt⟩
theorem Own.of {w : World} {base e sz n : Nat} {v : Value} {xs : List Value} (h : AppZ w base e sz v n xs) (hn : 0 < n) : Own w e v := h.row hn

theorem AppZ.grown {w w' : World} {base e sz n t : Nat} {v : Value} {xs : List Value} {row : Option Nat} (h : AppZ w base e sz v n xs) (hg : w.grownBy w' row) (hrow : ∀ g, row = some g → ∃ cur, Blk w g t cur) (hne : t ≠ e) : AppZ w' base e sz v n xs := by
  rcases h with ⟨h1, h2, a, h3, h4, h5⟩ | h
  · exact .inl ⟨h1, h2, a, h3, h4, Nat.lt_of_lt_of_le h5 hg.size⟩
  · refine .inr (h.kept hg ?_)
    rcases h.2 with ⟨rfl, _⟩ | ⟨g', cap, cur, rfl, _, hgg, _⟩
    · exact .inl rfl
    · exact .inr fun e' => by
        obtain ⟨cur', hc⟩ := hrow g' (by simpa [Value.ownBlock] using e'.symm)
        exact (hc.ne hgg hne) rfl
/-- A slice of one element of several cells, as one operation. -/
theorem step_build1 {P : Program} {ops : Array Oper} {Q : Exit → Act → World → Prop} {o : Oper} {a : Act} {w : World} {K : Act → World → Prop} {E : Prop} (hg : o.guard = none) (t e : TypeId) (x : Operand) (ho : o.op = .buildSlice t 1 #[(0, x)])
    (cells : Array Value) (ie : TypeInfo) (z : Value) (s : Nat) (hu : P.underlying t = some (.slice e)) (hie : P.info? e = some ie) (hz : ie.zero = some z) (hs : ie.size = s) (hpos : 0 < s) (hsm : s ≤ 2 ^ 24)
    (hx : a.eval x = .agg cells) (hc : cells.size = s)
    (h : K (a.put o.dst (.slice (some ⟨w.heap.size, 0, none⟩) 1 1)) (w.alloc (.cells cells e))) : if Region.wanted o (yielded ops a.tmps) = true then Oper.wp P o a w K Q else E := by
  have hw : Region.wanted o (yielded ops a.tmps) = true := by simp [Region.wanted, hg]
  rw [if_pos hw]
  subst hs
  refine wp_buildSlice t e 1 _ ho cells ie z hu hie hz (by omega) (by omega) ?_ h
  have := Great.fill_whole hpos [.agg cells] ((Array.range (1 * ie.size)).map (z.cells[· % z.cells.size]!)) (by simp [Value.cells, hc]) (by simp)
  simpa [hx, Value.cells] using this

theorem Blk.rdN {w : World} {e sz : Nat} (xs : List Value) (hl : xs.length = sz) : Rd (w.alloc (.cells xs.toArray e)) sz (some ⟨w.heap.size, 0, none⟩) 1 xs :=
  ⟨by omega, by omega, fun _ => ⟨_, _, rfl, fun j u hu => by have := cells_new w xs e j u hu; rwa [show (⟨w.heap.size, 0, none⟩ : Addr).add j = ⟨w.heap.size, 0 + j, none⟩ from by unfold Addr.add; split <;> simp_all] at this⟩⟩
/-- The versions of a graph that is made: what is reached after i steps. -/
def vAt (xs : List UInt8) : Nat → Nat
  | 0 => 0
  | i + 1 => vAt xs i + 1 + (xs.getD i 0).toNat % 3
def verN (xs : List UInt8) (i : Nat) : List Int := (List.range i).map fun j => ((vAt xs (j + 1) : Nat) : Int)
theorem verN_succ (xs : List UInt8) (i : Nat) : verN xs (i + 1) = verN xs i ++ [((vAt xs (i + 1) : Nat) : Int)] := by simp [verN, List.range_succ]
theorem verN_len (xs : List UInt8) (i : Nat) : (verN xs i).length = i := by simp [verN]
theorem vAt_le (xs : List UInt8) : ∀ i, vAt xs i ≤ 3 * i
  | 0 => Nat.le_refl _
  | i + 1 => by have := vAt_le xs i; have := (xs.getD i 0).toNat; rw [vAt]; omega
theorem vAt_lt (xs : List UInt8) : ∀ i j, i < j → vAt xs i < vAt xs j
  | i, 0, h => absurd h (Nat.not_lt_zero _)
  | i, j + 1, h => by
    rw [vAt]
    by_cases e : i = j
    · subst e; omega
    · have := vAt_lt xs i j (by omega); omega
theorem info33 : (Try.prog.info? 33).map (fun i => (i.zero, i.size, i.bytes)) = some (some (.agg (grV none 0 0 none 0 0).toArray), 2, 48) := by kernel_rfl
theorem size33 (cs : Array Value) (h : cs.size = 2) : (Try.prog.info? 33).map (·.size) = some cs.size := by rw [h]; kernel_rfl
theorem gr_one (A : Option Addr) (n c : Nat) (B : Option Addr) (m d : Nat) : (grV A n c B m d).toArray.all (·.oneCell') = true := all_oneCell_toArray fun v hv => by
  simp only [grV, List.mem_cons, List.not_mem_nil, or_false] at hv
  rcases hv with rfl | rfl <;> rfl
theorem built33z : Try.prog.built 33 [] = some (grV none 0 0 none 0 0).toArray := by kernel_rfl

theorem step_buildN {P : Program} {ops : Array Oper} {o : Oper} {a : Act} {w : World} {Q : Exit → Act → World → Prop} {K : Act → World → Prop} (hg : o.guard = none) (t : TypeId) (parts : Array (Nat × Operand)) (ho : o.op = .build t parts) (vals : List (Nat × Value)) (hv : parts.toList.map (fun (x : Nat × Operand) => (x.fst, a.eval x.snd)) = vals) (Z : Array Value) (hZ : P.built t vals = some Z)
    (h : K (a.put o.dst (.agg Z)) w) : StepP P ops Q o a w K := by
  unfold StepP
  have hw : Region.wanted o (yielded ops a.tmps) = true := by simp [Region.wanted, hg]
  rw [if_pos hw]
  unfold Oper.wp execOp
  simp only [ho, Sem.run_bind]
  rw [show parts.map (fun (x : Nat × Operand) => (x.fst, a.eval x.snd)) = vals.toArray from by subst hv; obtain ⟨l⟩ := parts; simp only [List.map_toArray], run_build w t _ Z hZ]
  exact h
theorem built53 (l : Ln) : Try.prog.built 53 [(0, .int .i64 l.f), (1, .int .i64 l.t), (2, .int .i64 l.c), (3, .agg (ndV l.n).toArray)] = some (lnV l).toArray := by kernel_rfl
/-- Six bytes that describe a link. -/
structure R6 where
  (a b c d e f : UInt8)
def r6V (y : R6) : List Value := [byteV y.a, byteV y.b, byteV y.c, byteV y.d, byteV y.e, byteV y.f]
theorem r6V_len (y : R6) : (r6V y).length = 6 := rfl
def mkFrom (N : Nat) (y : R6) : Nat := y.a.toNat % N
def mkTo (N : Nat) (y : R6) : Nat := (mkFrom N y + 1 + y.b.toNat % (N - 1)) % N
def mkLn (xs : List UInt8) (N : Nat) (y : R6) : Ln := ⟨((vAt xs (mkFrom N y + 1) : Nat) : Int), ((vAt xs (mkTo N y + 1) : Nat) : Int), (y.c.toNat % 8 : Nat), needN y.d y.e y.f⟩
def madeL (xs : List UInt8) (ys : List R6) : List Ln := if 1 < min xs.length 7 then (ys.take 14).map (mkLn xs (min xs.length 7)) else []
def madeM (xs : List UInt8) (ys : List R6) : Nat := if 1 < min xs.length 7 then min ys.length 14 else 0
theorem info66 : (Try.prog.info? 66).map (fun i => (i.zero, i.size, i.bytes)) = some (some (.agg (r6V ⟨0, 0, 0, 0, 0, 0⟩).toArray), 6, 6) := by kernel_rfl
theorem size66 (cs : Array Value) (h : cs.size = 6) : (Try.prog.info? 66).map (·.size) = some cs.size := by rw [h]; kernel_rfl
theorem und66 : Try.prog.underlying 66 = some (.array 6 5) := by kernel_rfl
theorem r6_one (y : R6) : (r6V y).toArray.all (·.oneCell') = true := all_oneCell_toArray fun v hv => by
  simp only [r6V, List.mem_cons, List.not_mem_nil, or_false] at hv
  rcases hv with rfl | rfl | rfl | rfl | rfl | rfl <;> rfl

set_option maxRecDepth 100000 in
set_option maxHeartbeats 4000000 in
theorem Made_any (A : Option Addr) (n c : Nat) (B : Option Addr) (m d : Nat) (xs : List UInt8) (ys : List R6) (w : World) (hr : Rd w 1 A n (xs.map byteV)) (hl : Rd w 6 B m (ys.flatMap r6V)) :
    Calls Try.prog 12 #[.agg (grV A n c B m d).toArray] w fun e w' => (∃ A' c' B' d', e = .returned (.agg (grV A' (min n 7) c' B' (madeM xs ys) d').toArray) ∧ AppZ w' w.heap.size 3 1 (.slice A' (min n 7) c') (min n 7) ((verN xs (min n 7)).map intV) ∧ AppZ w' w.heap.size 53 8 (.slice B' (madeM xs ys) d') (madeM xs ys) ((madeL xs ys).flatMap lnV)) ∧ Below w.heap.size w w' := by
  obtain ⟨i66, hi66, hz66, hs66, hy66⟩ := info_parts info66
  obtain ⟨i53, hi53, hz53, hs53, hy53⟩ := info_parts info53
  obtain ⟨i33, hi33, hz33, hs33, hy33⟩ := info_parts info33
  obtain ⟨d33, hd33, hrow33⟩ := und33
  obtain ⟨i3, hi3, hz3, hs3, hy3⟩ := info_parts info3
  have hxl := hr.len1
  have hnl := hr.le
  have hyl := hl.lenf r6V_len (by omega)
  have hml := hl.le
  have Hr := Lib.hid hr
  have Hl := Lib.hid hl
  have Hxl := Lib.hid hxl
  have Hyl := Lib.hid hyl
  clear hr hxl hl hyl
  go_enter Try.func12, Try.ntmps12
  go_upto_region 1 with (refine wpList_alloc0 rfl 33 rfl (grV none 0 0 none 0 0).toArray _ i33 hi33 hz33 rfl ?_; simp only [Act.put, List.setIfInBounds_toArray, List.set_cons_succ, List.set_cons_zero, World.size_alloc])
  obtain ⟨w1, hw1⟩ : ∃ v, v = (w.alloc (.cells (grV A n c B m d).toArray 25)).alloc (.cells (grV none 0 0 none 0 0).toArray 33) := ⟨_, rfl⟩
  have hB : Below w.heap.size w w1 := by rw [hw1]; exact ((Below.refl _ _).alloc (Nat.le_refl _) _).alloc (by simp) _
  have hC : Blk w1 w.heap.size 25 (grV A n c B m d).toArray := by rw [hw1]; exact (Blk.new _ _ _).alloc _
  have hO : Blk w1 (w.heap.size + 1) 33 (grV none 0 0 none 0 0).toArray := by
    have := Blk.new (w.alloc (.cells (grV A n c B m d).toArray 25)) 33 (grV none 0 0 none 0 0).toArray
    rw [World.size_alloc] at this
    rw [hw1]; exact this
  rw [← hw1]
  clear hw1
  have HC := Lib.hid hC
  have HO := Lib.hid hO
  have HB := Lib.hid hB
  clear hC hO hB
  have hn_ : Blk (w1.alloc (.cells (grV none 0 0 none 0 0).toArray 33)) w1.heap.size 33 (grV none 0 0 none 0 0).toArray := Blk.new _ _ _
  have Hn_ := Lib.hid hn_
  clear hn_
  go_upto_region 2 with (first | (refine wpList_buildN rfl 33 _ rfl [] rfl _ built33z ?_) | (refine wpList_alloc0 rfl 33 rfl (grV none 0 0 none 0 0).toArray _ i33 hi33 hz33 rfl ?_; simp only [Act.put, List.setIfInBounds_toArray, List.set_cons_succ, List.set_cons_zero]) | (refine wpList_store_row rfl 33 (.tmp 3) (.tmp 11) rfl w1.heap.size (grV none 0 0 none 0 0).toArray rfl rfl 33 (grV none 0 0 none 0 0).toArray Hn_.out (size33 _ rfl) rfl (gr_one _ _ _ _ _ _) ?_))
  obtain ⟨w2, hw2⟩ : ∃ v, v = (w1.alloc (.cells (grV none 0 0 none 0 0).toArray 33)).setRow w1.heap.size (grV none 0 0 none 0 0).toArray := ⟨_, rfl⟩
  have hb2 : Below w1.heap.size w1 w2 := by rw [hw2]; exact Below.setRow ((Below.refl _ _).alloc (Nat.le_refl _) _) (Nat.le_refl _) _
  have hG2 : Blk w2 w1.heap.size 33 (grV none 0 0 none 0 0).toArray := by rw [hw2]; exact setRow_heap _ _ _ _ _ _ Hn_.out
  rw [← hw2]
  clear hw2 Hn_
  obtain ⟨gb, hgb⟩ : ∃ v, v = w1.heap.size := ⟨_, rfl⟩
  rw [← hgb] at hG2 ⊢
  have HG2 := Lib.hid hG2
  have Hb2 := Lib.hid hb2
  have Hgb := Lib.hid hgb
  have hsz1 := HB.out.size
  clear hG2 hb2 hgb
  go_wp2_with fail
  go_loopw [4, 5] (fun v4 v5 wr => ∃ (i : Nat) (v : Value), v5 = .int .i64 (i : Int) ∧ v4 = .int .i64 ((vAt xs i : Nat) : Int) ∧ i ≤ n ∧ i ≤ 7 ∧ AppZ wr w1.heap.size 3 1 v i ((verN xs i).map intV) ∧ Own wr 3 v ∧ (i = 0 → v = .slice none 0 0) ∧ Blk wr gb 33 #[v, .slice none 0 0] ∧ Below w1.heap.size w1 wr) (fun _ v5 _ => 7 - (intOf v5).toNat)
  case atStart => exact ⟨0, .slice none 0 0, rfl, rfl, by omega, by omega, .inr (World.ownsRow_nil _ _ _ _), (show Own w2 3 (.slice none 0 0) from fun g e => absurd e (by simp [Value.ownBlock])), fun _ => rfl, HG2.out, Hb2.out⟩
  case round =>
    obtain ⟨i, v, rfl, rfl, hin, hi7, happ, hown, hv0, hG, hBr⟩ := hrel
    have Happ := Lib.hid happ
    have Hown := Lib.hid hown
    have Hv0 := Lib.hid hv0
    have HG := Lib.hid hG
    have HBr := Lib.hid hBr
    have hszr := hBr.size
    have g0 : wr.cell? ⟨gb, 0, none⟩ = some v := by rw [hG.cell]; rfl
    have r0 : wr.cell? ⟨w.heap.size, 0, none⟩ = some (.slice A n c) := by rw [(HC.out.below hBr HC.out.lt).cell]; rfl
    have hva := vAt_le xs i
    obtain ⟨V, hV⟩ : ∃ V, V = vAt xs i := ⟨_, rfl⟩
    rw [← hV] at hva ⊢
    have HV := Lib.hid hV
    clear happ hown hv0 hG hBr hV
    by_cases hlt : i < n ∧ i < 7
    · obtain ⟨h1, h2⟩ := hlt
      obtain ⟨b, off, x, rfl, hx, cx⟩ := ((Hr.out.below HB.out).below HBr.out).byte_ h1
      have hxb := x.toNat_lt
      have d1 : decide ((i : Int) < 7) = true := decide_eq_true (by omega)
      have g0' := g0
      have hkb : ∀ (o : Obj) (W9 : World), (wr.alloc o).grownBy W9 v.ownBlock → Blk W9 gb 33 #[v, .slice none 0 0] := fun o W9 hg => (HG.out.alloc o).kept hg (fun e => by
        obtain ⟨cur, hc⟩ := Hown.out gb e.symm
        exact (hc.ne HG.out (by decide)) rfl)
      have hcell : ∀ (o : Obj) (W9 : World), (wr.alloc o).grownBy W9 v.ownBlock → W9.cell? ⟨gb, 0, none⟩ = some v := fun o W9 hg => by rw [(hkb o W9 hg).cell]; rfl
      have hkeep : ∀ (o : Obj) (W9 : World), (wr.alloc o).grownBy W9 v.ownBlock → W9.frozen? ⟨gb, 0, none⟩ = false := fun o W9 hg => (hkb o W9 hg).frozen 0
      go_wp2_with (at_builtin; go_loud (refine wpList_appz rfl (.tmp 34) (.tmp 36) 30 rfl 3 i3 (.int .i64 0) 1 8 Try.underlying30 hi3 hz3 hs3 hy3 rfl (by omega) w1.heap.size (by simp; omega) v i _ rfl (Happ.out.below ((Below.refl _ _).alloc (Nat.le_refl _) _) (Nat.le_refl _)) (some ⟨wr.heap.size, 0, none⟩) 1 1 [intV ((V : Int) + (1 + ((x.toNat : Int) % 3)))] rfl (lit_rdE _ _ _) (by simp [intV, Value.oneCell']) (by unfold maxLen; omega) (by omega) ?_; intro v9 w9 happ9 hg9; obtain ⟨A9, c9, rfl, hc9, _⟩ := happ9.rd; have hfz9 := hkeep _ w9 hg9; have hcl9 := hcell _ w9 hg9))
      have hG9 := hkb _ w9 hg9
      have hval : ((vAt xs (i + 1) : Nat) : Int) = (V : Int) + (1 + (x.toNat : Int) % 3) := by
        rw [vAt, ← HV.out, List.getD_eq_getElem?_getD, hx]
        show ((V + 1 + x.toNat % 3 : Nat) : Int) = _
        omega
      have hKn := (KeptIn.refl (fun k => k ≠ gb) w9).setAt (p := ⟨gb, 0, none⟩) (fun h => h rfl) (.slice A9 (i + 1) c9)
      have hown9 : Own w9 3 (.slice A9 (i + 1) c9) := Own.of happ9 (by omega)
      have happ9' : AppZ w9 w1.heap.size 3 1 (.slice A9 (i + 1) c9) (i + 1) ((verN xs (i + 1)).map intV) := by
        rw [verN_succ, hval, List.map_append]; exact happ9
      have hlt9 : ∀ g, v.ownBlock = some g → w1.heap.size ≤ g := fun g e => (Happ.out.lt g e).1
      have hB9 : Below w1.heap.size w1 w9 := (HBr.out.alloc hszr _).grown hg9 (by simp; omega) hlt9
      have hgb9 := Hgb.out
      exact ⟨⟨i + 1, (.slice A9 (i + 1) c9), by go_num, by rw [hval], by omega, by omega, happ9'.keptIn hG9 (by decide) hKn, hown9.keptIn hG9 (by decide) hKn, fun h => absurd h (by omega), heap_setCell_same w9 gb 0 _ 33 (.slice A9 (i + 1) c9) hG9, hB9.setCell (by show w1.heap.size ≤ gb; omega) _⟩, by simp [intOf]; omega⟩
    · rcases (by omega : i = n ∨ (i < n ∧ i = 7)) with he | ⟨h1, h2⟩
      · have d1 : decide ((i : Int) < (n : Int)) = false := decide_eq_false (by omega)
        have d2 : decide (i < n) = false := decide_eq_false (by omega)
        clear hlt
        go_upto_region 7 with fail
        clear d1 d2
        subst he
        have hN : i = min i 7 := by omega
        obtain ⟨A1, cc1, rfl, hcc1, hrd1⟩ := Happ.out.rd
        have Hrd1 := Lib.hid hrd1
        have HN := Lib.hid hN
        clear hrd1 hN
        obtain ⟨wo, hwo⟩ : ∃ v, v = wr := ⟨_, rfl⟩
        subst hwo
        obtain ⟨N, hNi⟩ : ∃ N, N = i := ⟨_, rfl⟩
        subst hNi
        go_wp2_with fail
        go_loopw [7] (fun v7 wr => ∃ (j : Nat) (u : Value), v7 = .int .i64 (j : Int) ∧ j ≤ m ∧ j ≤ 14 ∧ (j = 0 ∨ 1 < N) ∧ AppZ wr w1.heap.size 53 8 u j (((ys.take j).map (mkLn xs N)).flatMap lnV) ∧ Own wr 53 u ∧ AppZ wr w1.heap.size 3 1 (.slice A1 N cc1) N ((verN xs N).map intV) ∧ Own wr 3 (.slice A1 N cc1) ∧ Blk wr gb 33 #[.slice A1 N cc1, u] ∧ Below w1.heap.size w1 wr) (fun v7 _ => 14 - (intOf v7).toNat)
        case atStart => exact ⟨0, .slice none 0 0, rfl, by omega, by omega, .inl rfl, .inr (World.ownsRow_nil _ _ _ _), (show Own wo 53 (.slice none 0 0) from fun g e => absurd e (by simp [Value.ownBlock])), Happ.out, Hown.out, HG.out, HBr.out⟩
        case round =>
          clear Happ Hown HG HBr hszr g0 r0 Hv0 Hrd1
          obtain ⟨j, u, rfl, hjm, hj14, hj0, happ, hou, hav, hov, hG, hBr⟩ := hrel
          have Happ := Lib.hid happ
          have Hou := Lib.hid hou
          have Hav := Lib.hid hav
          have Hov := Lib.hid hov
          have HG := Lib.hid hG
          have HBr := Lib.hid hBr
          have Hj0 := Lib.hid hj0
          have hszr := hBr.size
          have g0 : wr.cell? ⟨gb, 0, none⟩ = some (.slice A1 N cc1) := by rw [hG.cell]; rfl
          have g1 : wr.cell? ⟨gb, 1, none⟩ = some u := by rw [hG.cell]; rfl
          have r1 : wr.cell? ⟨w.heap.size, 1, none⟩ = some (.slice B m d) := by rw [(HC.out.below hBr HC.out.lt).cell]; rfl
          clear happ hou hav hov hG hBr hj0
          by_cases hlt : j < m ∧ j < 14 ∧ 1 < N
          · obtain ⟨h1, h2, h3⟩ := hlt
            obtain ⟨b, off, y, rfl, hy, hcy⟩ := ((Hl.out.below HB.out).below HBr.out).flat_ r6V_len (by omega) h1
            have hgy : wr.rangeAt b (off + j * 6) (r6V y) := fun k q hq => by
              have := hcy k q hq
              rwa [← Nat.add_assoc] at this
            have Hgy := Lib.hid hgy
            have Hy := Lib.hid hy
            have d1 : decide ((j : Int) < 14) = true := decide_eq_true (by omega)
            have d2 : decide ((1 : Int) < (N : Int)) = true := decide_eq_true (by omega)
            have hn_ : Blk (wr.alloc (.cells (r6V ⟨0, 0, 0, 0, 0, 0⟩).toArray 66)) wr.heap.size 66 (r6V ⟨0, 0, 0, 0, 0, 0⟩).toArray := Blk.new _ _ _
            have Hn_ := Lib.hid hn_
            clear hgy hy hcy hn_
            go_upto_region 12 with (first | (refine wpList_load_mid rfl 66 (.tmp 60) rfl b (off + j * 6) rfl (r6V y) _ Hgy.out und66 rfl (by rw [r6V_len]; kernel_rfl) ?_) | (refine wpList_alloc0 rfl 66 rfl (r6V ⟨0, 0, 0, 0, 0, 0⟩).toArray _ i66 hi66 hz66 rfl ?_; simp only [Act.put, List.setIfInBounds_toArray, List.set_cons_succ, List.set_cons_zero]) | (refine wpList_store_row rfl 66 (.tmp 8) (.tmp 61) rfl wr.heap.size (r6V y).toArray rfl rfl 66 (r6V ⟨0, 0, 0, 0, 0, 0⟩).toArray Hn_.out (size66 _ rfl) rfl (r6_one _) ?_))
            obtain ⟨w3, hw3⟩ : ∃ v, v = (wr.alloc (.cells (r6V ⟨0, 0, 0, 0, 0, 0⟩).toArray 66)).setRow wr.heap.size (r6V y).toArray := ⟨_, rfl⟩
            have hb3 : Below wr.heap.size wr w3 := by rw [hw3]; exact Below.setRow ((Below.refl _ _).alloc (Nat.le_refl _) _) (Nat.le_refl _) _
            have hL3 : Blk w3 wr.heap.size 66 (r6V y).toArray := by rw [hw3]; exact setRow_heap _ _ _ _ _ _ Hn_.out
            rw [← hw3]
            clear hw3 Hn_ g0 g1 r1 d1 d2 Hgy
            obtain ⟨yb, hyb⟩ : ∃ v, v = wr.heap.size := ⟨_, rfl⟩
            rw [← hyb] at hL3 ⊢
            clear hyb
            have hx0 := y.a.toNat_lt
            have hx1 := y.b.toNat_lt
            have hx2 := y.c.toNat_lt
            have e0 : w3.cell? ⟨yb, 0, none⟩ = some (.int .u8 (y.a.toNat : Int)) := by rw [hL3.cell]; rfl
            have e1 : w3.cell? ⟨yb, 1, none⟩ = some (.int .u8 (y.b.toNat : Int)) := by rw [hL3.cell]; rfl
            have HL3 := Lib.hid hL3
            replace Happ := Lib.hid (Happ.out.below hb3 (Nat.le_refl _))
            replace Hou := Lib.hid (Hou.out.below hb3)
            replace Hav := Lib.hid (Hav.out.below hb3 (Nat.le_refl _))
            replace Hov := Lib.hid (Hov.out.below hb3)
            replace HG := Lib.hid (HG.out.below hb3 HG.out.lt)
            replace HBr := Lib.hid (HBr.out.trans (hb3.mono hszr))
            clear hL3 hb3
            go_upto_region 13 with fail
            obtain ⟨F, hF⟩ : ∃ F, F = mkFrom N y := ⟨_, rfl⟩
            have hFi : (y.a.toNat : Int) % (N : Int) = (F : Int) := by rw [hF]; unfold mkFrom; omega
            have hFN : F < N := by rw [hF]; exact Nat.mod_lt _ (by omega)
            rw [hFi]
            have HF := Lib.hid hF
            clear hF hFi
            go_upto_region 14 with fail
            obtain ⟨T, hT⟩ : ∃ T, T = mkTo N y := ⟨_, rfl⟩
            have hTN : T < N := by rw [hT]; exact Nat.mod_lt _ (by omega)
            have hTi : (wrap64 ((F : Int) + 1 + (y.b.toNat : Int) % ((N : Int) - 1))).tmod (N : Int) = (T : Int) := by
              obtain ⟨M1, hM1⟩ : ∃ M1, M1 = N - 1 := ⟨_, rfl⟩
              have hzl : y.b.toNat % M1 < M1 := Nat.mod_lt _ (by omega)
              have e1 : (N : Int) - 1 = (M1 : Int) := by omega
              have e2 : (y.b.toNat : Int) % (M1 : Int) = ((y.b.toNat % M1 : Nat) : Int) := (Int.natCast_emod _ _).symm
              have hT2 : T = (F + 1 + y.b.toNat % M1) % N := by rw [hT, mkTo, ← HF.out, hM1]
              rw [e1, e2, hT2]
              generalize y.b.toNat % M1 = z at *
              rw [show wrap64 ((F : Int) + 1 + (z : Int)) = ((F + 1 + z : Nat) : Int) from by unfold wrap64; omega, Int.tmod_eq_emod_of_nonneg (by omega), ← Int.natCast_emod]
            rw [hTi]
            have HT := Lib.hid hT
            clear hTi hT e0 e1
            obtain ⟨_, _, ev, _, hrdv⟩ := Hav.out.rd
            cases ev
            obtain ⟨vb, vo, z1, ea, hz1, cz1⟩ := hrdv.at_ hFN
            obtain ⟨vb2, vo2, z2, ea2, hz2, cz2⟩ := hrdv.at_ hTN
            subst ea
            cases ea2
            have hvN : ∀ k, k < N → (verN xs N)[k]? = some ((vAt xs (k + 1) : Nat) : Int) := fun k hk => by
              unfold verN
              rw [List.getElem?_map, List.getElem?_range hk]; rfl
            rw [hvN F hFN] at hz1
            rw [hvN T hTN] at hz2
            obtain rfl := Option.some.inj hz1
            obtain rfl := Option.some.inj hz2
            have cz1' : w3.cell? ⟨vb, vo + F, none⟩ = some (.int .i64 ((vAt xs (F + 1) : Nat) : Int)) := cz1
            have cz2' : w3.cell? ⟨vb, vo + T, none⟩ = some (.int .i64 ((vAt xs (T + 1) : Nat) : Int)) := cz2
            have g0 : w3.cell? ⟨gb, 0, none⟩ = some (.slice (some ⟨vb, vo, none⟩) N cc1) := by rw [HG.out.cell]; rfl
            have g1 : w3.cell? ⟨gb, 1, none⟩ = some u := by rw [HG.out.cell]; rfl
            have e2 : w3.cell? ⟨yb, 2, none⟩ = some (.int .u8 (y.c.toNat : Int)) := by rw [HL3.out.cell]; rfl
            have e3 : w3.cell? ⟨yb, 3, none⟩ = some (.int .u8 (y.d.toNat : Int)) := by rw [HL3.out.cell]; rfl
            have e4 : w3.cell? ⟨yb, 4, none⟩ = some (.int .u8 (y.e.toNat : Int)) := by rw [HL3.out.cell]; rfl
            have e5 : w3.cell? ⟨yb, 5, none⟩ = some (.int .u8 (y.f.toNat : Int)) := by rw [HL3.out.cell]; rfl
            obtain ⟨V1, hV1⟩ : ∃ V1, V1 = vAt xs (F + 1) := ⟨_, rfl⟩
            obtain ⟨V2, hV2⟩ : ∃ V2, V2 = vAt xs (T + 1) := ⟨_, rfl⟩
            rw [← hV1] at cz1'
            rw [← hV2] at cz2'
            have HV1 := Lib.hid hV1
            have HV2 := Lib.hid hV2
            have g0r := cell_regrown g0
            have g1r := cell_regrown g1
            have c1r := cell_regrown cz1'
            have c2r := cell_regrown cz2'
            have e2r := cell_regrown e2
            have e3r := cell_regrown e3
            have e4r := cell_regrown e4
            have e5r := cell_regrown e5
            clear hz1 hz2 hvN hrdv cz1 cz2 cz1' cz2' g0 g1 e2 e3 e4 e5 hV1 hV2
            refine wp_region_reads_tail 26 [0, 1, 2, 3, 4, 5, 6, 7, 8, 9, 10, 11, 12, 13, 14, 15, 16, 17, 18, 19, 20, 21] 4 (by kernel_rfl) (List.take_append_drop _ _) rfl (by kernel_rfl) (by kernel_rfl) (by kernel_rfl) (by decide) (by kernel_rfl) (by kernel_rfl) (fun _ _ d _ _ h => by cases d <;> exact h) (by kernel_rfl) (by kernel_rfl) rfl ?_
            simp only [List.take_succ_cons, List.take_zero, List.drop_succ_cons, List.drop_zero, pickOps, List.getElem?_cons_zero, List.getElem?_cons_succ]
            repeat (go_big_quiet_step (fail))
            refine wpQuiet_nil ?_
            clear g0r g1r c1r c2r e2r e3r e4r e5r
            refine web_start0 (fs := []) [.act 22 [], .act 23 [], .act 24 [], .act 25 []] _ _ (by kernel_rfl) (fun _ _ d _ _ h => by cases d <;> exact h) trivial (by decide) (by decide) (by kernel_rfl) (by kernel_rfl) (ext_drew (ext_refl _)) (by intro F hF; simp at hF) 4 (by decide) (by kernel_rfl) ?_
            intro v1 W hW _ o ho K hK
            cases ho
            have hbW : Below w3.heap.size w3 W := ((Below.refl _ w3).drew).trans hW
            simp only [putS, List.foldl_nil, Act.put]
            unfold StepP
            go_simp
            refine hK _ _ (by intro F hF; simp at hF) (Below.refl _ _) ?_
            clear hK K hW
            intro v2 W3 hW3 _ o ho K hK
            cases ho
            have hb3 := hbW.trans (hW3.mono hbW.size)
            simp only [putS, List.foldl_nil, Act.put]
            have Hnd := Lib.hid (Need_any y.d y.e y.f W3)
            unfold StepP
            go_simp
            refine Hnd.out.mono ?_
            rintro e W4 ⟨rfl, hb4⟩
            refine hK _ _ (by intro F hF; simp at hF) hb4 ?_
            have hb4 := hb3.trans (hb4.mono hb3.size)
            clear hK K Hnd hW3
            intro v3 W5 hW5 _ o ho K hK
            cases ho
            have hb5 := hb4.trans (hW5.mono hb4.size)
            simp only [putS, List.foldl_nil, Act.put]
            obtain ⟨ln, hln⟩ : ∃ ln : Ln, ln = ⟨(V1 : Int), (V2 : Int), ((y.c.toNat % 8 : Nat) : Int), needN y.d y.e y.f⟩ := ⟨_, rfl⟩
            have hbl := built53 ⟨(V1 : Int), (V2 : Int), ((y.c.toNat % 8 : Nat) : Int), needN y.d y.e y.f⟩
            rw [← hln] at hbl
            have Hbl := Lib.hid hbl
            refine step_buildN rfl 53 _ rfl [(0, .int .i64 (V1 : Int)), (1, .int .i64 (V2 : Int)), (2, .int .i64 ((y.c.toNat % 8 : Nat) : Int)), (3, .agg (ndV (needN y.d y.e y.f)).toArray)] rfl (lnV ln).toArray (by rw [hln] at hbl ⊢; exact hbl) ?_
            refine hK _ _ (by intro F hF; simp at hF) (Below.refl _ _) ?_
            clear hK K hbl hW5
            intro v4 W6 hW6 _ o ho K hK
            cases ho
            have hb6 := hb5.trans (hW6.mono hb5.size)
            simp only [putS, List.foldl_nil, Act.put, List.setIfInBounds_toArray, List.set_cons_succ, List.set_cons_zero]
            refine step_build1 rfl 31 53 (.tmp 102) rfl (lnV ln).toArray i53 _ 8 Try.underlying31 hi53 hz53 hs53 (by omega) (by omega) rfl rfl ?_
            have hrd7 := Blk.rdN (w := W6) (e := 53) (lnV ln) (lnV_len ln)
            have Hrd7 := Lib.hid hrd7
            have hb7 := hb6.trans (((Below.refl W6.heap.size W6).alloc (Nat.le_refl _) (.cells (lnV ln).toArray 53)).mono hb6.size)
            refine hK _ _ (by intro F hF; simp at hF) ((Below.refl _ _).alloc (Nat.le_refl _) _) ?_
            clear hK K hW6 hrd7
            intro v5 W8 hW8 _
            have hb8 := hb7.trans (hW8.mono hb7.size)
            have Hrd8 := Lib.hid (Hrd7.out.below hW8)
            have HG8 := Lib.hid (HG.out.below hb8 HG.out.lt)
            have Hou8 := Lib.hid (Hou.out.below hb8)
            have Happ8 := Lib.hid (Happ.out.below hb8 (Nat.le_refl _))
            have Hav8 := Lib.hid (Hav.out.below hb8 (Nat.le_refl _))
            have Hov8 := Lib.hid (Hov.out.below hb8)
            have HBr8 := Lib.hid (HBr.out.trans (hb8.mono HBr.out.size))
            simp only [Exit.then, putS, List.foldl_nil, Act.put, List.setIfInBounds_toArray, List.set_cons_succ, List.set_cons_zero]
            clear hb8 hb7 hb6 hb5 hb4 hb3 hbW hW8
            have hkb : ∀ (W9 : World), W8.grownBy W9 u.ownBlock → Blk W9 gb 33 #[.slice (some ⟨vb, vo, none⟩) N cc1, u] := fun W9 hg => HG8.out.kept hg (fun e => by
              obtain ⟨cur, hc⟩ := Hou8.out gb e.symm
              exact (hc.ne HG8.out (by decide)) rfl)
            have hcell : ∀ (W9 : World), W8.grownBy W9 u.ownBlock → W9.cell? ⟨gb, 1, none⟩ = some u := fun W9 hg => by rw [(hkb W9 hg).cell]; rfl
            have hkeep : ∀ (W9 : World), W8.grownBy W9 u.ownBlock → W9.frozen? ⟨gb, 1, none⟩ = false := fun W9 hg => (hkb W9 hg).frozen 1
            have hsz8 : w1.heap.size ≤ W8.heap.size := HBr8.out.size
            go_wp2_with (at_builtin; go_loud (refine wpList_appz rfl (.tmp 79) (.tmp 103) 31 rfl 53 i53 (.agg (lnV ln0).toArray) 8 64 Try.underlying31 hi53 hz53 hs53 hy53 rfl (by omega) w1.heap.size hsz8 u j _ rfl Happ8.out (some ⟨W6.heap.size, 0, none⟩) 1 1 (lnV ln) rfl Hrd8.out (fun v hv => by have := List.all_eq_true.1 (show (lnV ln).all (·.oneCell') = true by simpa using ln_one ln) v hv; exact this) (by unfold maxLen; omega) (by omega) ?_; intro v9 w9 happ9 hg9; obtain ⟨A9, c9, rfl, hc9, _⟩ := happ9.rd; have hfz9 := hkeep w9 hg9; have hcl9 := hcell w9 hg9))
            have hG9 := hkb w9 hg9
            have hKn := (KeptIn.refl (fun k => k ≠ gb) w9).setAt (p := ⟨gb, 1, none⟩) (fun h => h rfl) (.slice A9 (j + 1) c9)
            have hown9 : Own w9 53 (.slice A9 (j + 1) c9) := Own.of happ9 (by omega)
            have hln2 : ln = mkLn xs N y := by rw [hln, HV1.out, HV2.out, HF.out, HT.out]; rfl
            have htk : (ys.take (j + 1)).map (mkLn xs N) = (ys.take j).map (mkLn xs N) ++ [ln] := by
              rw [List.take_add_one, Hy.out, hln2]; simp
            have happ9' : AppZ w9 w1.heap.size 53 8 (.slice A9 (j + 1) c9) (j + 1) (((ys.take (j + 1)).map (mkLn xs N)).flatMap lnV) := by
              rw [htk, List.flatMap_append]
              simpa using happ9
            have hav9 := Hav8.out.grown hg9 (fun g e => Hou8.out g e) (by decide)
            have hov9 : Own w9 3 (.slice (some ⟨vb, vo, none⟩) N cc1) := fun g e => by
              obtain ⟨cur, hc⟩ := Hov8.out g e
              exact ⟨cur, hc.kept hg9 (fun e2 => by
                obtain ⟨cur2, hc2⟩ := Hou8.out g e2.symm
                exact (hc2.ne hc (by decide)) rfl)⟩
            have hlt9 : ∀ g, u.ownBlock = some g → w1.heap.size ≤ g := fun g e => (Happ8.out.lt g e).1
            have hB9 : Below w1.heap.size w1 w9 := HBr8.out.grown hg9 hsz8 hlt9
            have hgb9 := Hgb.out
            exact ⟨⟨j + 1, .slice A9 (j + 1) c9, by go_num, by omega, by omega, .inr h3, happ9'.keptIn hG9 (by decide) hKn, hown9.keptIn hG9 (by decide) hKn, hav9.keptIn hG9 (by decide) hKn, hov9.keptIn hG9 (by decide) hKn, heap_setCell_same w9 gb 1 _ 33 (.slice A9 (j + 1) c9) hG9, hB9.setCell (by show w1.heap.size ≤ gb; omega) _⟩, by simp [intOf]; omega⟩
          · have hM : madeM xs ys = j := by
              unfold madeM
              rw [Hxl.out, Hyl.out, ← HN.out]
              rcases Hj0.out with h0 | h0
              · by_cases h1 : 1 < N
                · rw [if_pos h1]; omega
                · rw [if_neg h1]; omega
              · rw [if_pos h0]; omega
            have hL : madeL xs ys = (ys.take j).map (mkLn xs N) := by
              unfold madeL
              rw [Hxl.out, ← HN.out]
              rcases Hj0.out with h0 | h0
              · by_cases h1 : 1 < N
                · rw [if_pos h1]
                  have h2 : j = m ∨ j = 14 := by omega
                  rcases h2 with h2 | h2
                  · rw [List.take_of_length_le (by have := Hyl.out; omega), List.take_of_length_le (by have := Hyl.out; omega)]
                  · rw [h2]
                · rw [if_neg h1, h0]; simp
              · rw [if_pos h0]
                have h2 : j = m ∨ j = 14 := by omega
                rcases h2 with h2 | h2
                · rw [List.take_of_length_le (by have := Hyl.out; omega), List.take_of_length_le (by have := Hyl.out; omega)]
                · rw [h2]
            obtain ⟨A2, cc2, rfl, hcc2, _⟩ := Happ.out.rd
            have HM := Lib.hid hM
            have HLs := Lib.hid hL
            have hO := HO.out.below HBr.out HO.out.lt
            have HO2 := Lib.hid hO
            have HBx := Lib.hid (HB.out.trans (HBr.out.mono HB.out.size))
            have fin : ∀ (cells : Array Value), AppZ (wr.setRow (w.heap.size + 1) cells) w.heap.size 3 1 (.slice A1 N cc1) N ((verN xs N).map intV) ∧ AppZ (wr.setRow (w.heap.size + 1) cells) w.heap.size 53 8 (.slice A2 j cc2) j (((ys.take j).map (mkLn xs N)).flatMap lnV) ∧ Below w.heap.size w (wr.setRow (w.heap.size + 1) cells) := fun cells =>
              ⟨(Hav.out.setRow HO2.out (by decide)).mono hsz1, (Happ.out.setRow HO2.out (by decide)).mono hsz1, Below.setRow HBx.out (by omega) cells⟩
            have Fin := Lib.hid fin
            clear hM hL hO fin
            rcases (by omega : j = m ∨ (j < m ∧ j = 14) ∨ (j < m ∧ j < 14 ∧ N ≤ 1)) with h1 | ⟨h1, h2⟩ | ⟨h1, h2, h3⟩
            · have q1 : decide ((j : Int) < (m : Int)) = false := decide_eq_false (by omega)
              have q2 : decide (j < m) = false := decide_eq_false (by omega)
              clear hlt h1
              go_wp2_with (first | (refine wpList_load_mid rfl 33 (.tmp 3) rfl gb 0 rfl (grV A1 N cc1 A2 j cc2) d33 (Blk.range HG.out) hd33 hrow33 (by rw [grV_len]; kernel_rfl) ?_) | (refine wpList_store_row rfl 33 (.tmp 2) (.tmp 106) rfl (w.heap.size + 1) (grV A1 N cc1 A2 j cc2).toArray rfl rfl 33 (grV none 0 0 none 0 0).toArray HO2.out (size33 _ rfl) rfl (gr_one _ _ _ _ _ _) ?_))
              obtain ⟨f1, f2, f3⟩ := Fin.out (grV A1 N cc1 A2 j cc2).toArray
              refine bodyPost_ret (results_cell_row rfl _ _ (w.heap.size + 1) 33 (grV A1 N cc1 A2 j cc2).toArray (0, 0) d33 rfl (setRow_heap _ _ _ _ _ _ HO2.out) hd33 (by cases d33 <;> first | rfl | exact hrow33) (size33 _ rfl)) rfl ⟨⟨A1, cc1, A2, cc2, by rw [HM.out, ← HN.out], by rw [← HN.out]; exact f1, by rw [HM.out, HLs.out]; exact f2⟩, f3⟩
            · have q1 : decide ((j : Int) < 14) = false := decide_eq_false (by omega)
              have q2 : decide (j < 14) = false := decide_eq_false (by omega)
              clear hlt h2
              go_wp2_with (first | (refine wpList_load_mid rfl 33 (.tmp 3) rfl gb 0 rfl (grV A1 N cc1 A2 j cc2) d33 (Blk.range HG.out) hd33 hrow33 (by rw [grV_len]; kernel_rfl) ?_) | (refine wpList_store_row rfl 33 (.tmp 2) (.tmp 106) rfl (w.heap.size + 1) (grV A1 N cc1 A2 j cc2).toArray rfl rfl 33 (grV none 0 0 none 0 0).toArray HO2.out (size33 _ rfl) rfl (gr_one _ _ _ _ _ _) ?_))
              obtain ⟨f1, f2, f3⟩ := Fin.out (grV A1 N cc1 A2 j cc2).toArray
              refine bodyPost_ret (results_cell_row rfl _ _ (w.heap.size + 1) 33 (grV A1 N cc1 A2 j cc2).toArray (0, 0) d33 rfl (setRow_heap _ _ _ _ _ _ HO2.out) hd33 (by cases d33 <;> first | rfl | exact hrow33) (size33 _ rfl)) rfl ⟨⟨A1, cc1, A2, cc2, by rw [HM.out, ← HN.out], by rw [← HN.out]; exact f1, by rw [HM.out, HLs.out]; exact f2⟩, f3⟩
            · have q1 : decide ((1 : Int) < (N : Int)) = false := decide_eq_false (by omega)
              have q2 : decide (1 < N) = false := decide_eq_false (by omega)
              have q3 : decide ((j : Int) < 14) = true := decide_eq_true (by omega)
              clear hlt
              go_wp2_with (first | (refine wpList_load_mid rfl 33 (.tmp 3) rfl gb 0 rfl (grV A1 N cc1 A2 j cc2) d33 (Blk.range HG.out) hd33 hrow33 (by rw [grV_len]; kernel_rfl) ?_) | (refine wpList_store_row rfl 33 (.tmp 2) (.tmp 106) rfl (w.heap.size + 1) (grV A1 N cc1 A2 j cc2).toArray rfl rfl 33 (grV none 0 0 none 0 0).toArray HO2.out (size33 _ rfl) rfl (gr_one _ _ _ _ _ _) ?_))
              obtain ⟨f1, f2, f3⟩ := Fin.out (grV A1 N cc1 A2 j cc2).toArray
              refine bodyPost_ret (results_cell_row rfl _ _ (w.heap.size + 1) 33 (grV A1 N cc1 A2 j cc2).toArray (0, 0) d33 rfl (setRow_heap _ _ _ _ _ _ HO2.out) hd33 (by cases d33 <;> first | rfl | exact hrow33) (size33 _ rfl)) rfl ⟨⟨A1, cc1, A2, cc2, by rw [HM.out, ← HN.out], by rw [← HN.out]; exact f1, by rw [HM.out, HLs.out]; exact f2⟩, f3⟩
      · have d1 : decide ((i : Int) < 7) = false := decide_eq_false (by omega)
        have d2 : decide (i < 7) = false := decide_eq_false (by omega)
        clear hlt
        go_upto_region 7 with fail
        clear d1 d2
        have hN : i = min n 7 := by omega
        clear h1 h2
        obtain ⟨A1, cc1, rfl, hcc1, hrd1⟩ := Happ.out.rd
        have Hrd1 := Lib.hid hrd1
        have HN := Lib.hid hN
        clear hrd1 hN
        obtain ⟨wo, hwo⟩ : ∃ v, v = wr := ⟨_, rfl⟩
        subst hwo
        obtain ⟨N, hNi⟩ : ∃ N, N = i := ⟨_, rfl⟩
        subst hNi
        go_wp2_with fail
        go_loopw [7] (fun v7 wr => ∃ (j : Nat) (u : Value), v7 = .int .i64 (j : Int) ∧ j ≤ m ∧ j ≤ 14 ∧ (j = 0 ∨ 1 < N) ∧ AppZ wr w1.heap.size 53 8 u j (((ys.take j).map (mkLn xs N)).flatMap lnV) ∧ Own wr 53 u ∧ AppZ wr w1.heap.size 3 1 (.slice A1 N cc1) N ((verN xs N).map intV) ∧ Own wr 3 (.slice A1 N cc1) ∧ Blk wr gb 33 #[.slice A1 N cc1, u] ∧ Below w1.heap.size w1 wr) (fun v7 _ => 14 - (intOf v7).toNat)
        case atStart => exact ⟨0, .slice none 0 0, rfl, by omega, by omega, .inl rfl, .inr (World.ownsRow_nil _ _ _ _), (show Own wo 53 (.slice none 0 0) from fun g e => absurd e (by simp [Value.ownBlock])), Happ.out, Hown.out, HG.out, HBr.out⟩
        case round =>
          clear Happ Hown HG HBr hszr g0 r0 Hv0 Hrd1
          obtain ⟨j, u, rfl, hjm, hj14, hj0, happ, hou, hav, hov, hG, hBr⟩ := hrel
          have Happ := Lib.hid happ
          have Hou := Lib.hid hou
          have Hav := Lib.hid hav
          have Hov := Lib.hid hov
          have HG := Lib.hid hG
          have HBr := Lib.hid hBr
          have Hj0 := Lib.hid hj0
          have hszr := hBr.size
          have g0 : wr.cell? ⟨gb, 0, none⟩ = some (.slice A1 N cc1) := by rw [hG.cell]; rfl
          have g1 : wr.cell? ⟨gb, 1, none⟩ = some u := by rw [hG.cell]; rfl
          have r1 : wr.cell? ⟨w.heap.size, 1, none⟩ = some (.slice B m d) := by rw [(HC.out.below hBr HC.out.lt).cell]; rfl
          clear happ hou hav hov hG hBr hj0
          by_cases hlt : j < m ∧ j < 14 ∧ 1 < N
          · obtain ⟨h1, h2, h3⟩ := hlt
            obtain ⟨b, off, y, rfl, hy, hcy⟩ := ((Hl.out.below HB.out).below HBr.out).flat_ r6V_len (by omega) h1
            have hgy : wr.rangeAt b (off + j * 6) (r6V y) := fun k q hq => by
              have := hcy k q hq
              rwa [← Nat.add_assoc] at this
            have Hgy := Lib.hid hgy
            have Hy := Lib.hid hy
            have d1 : decide ((j : Int) < 14) = true := decide_eq_true (by omega)
            have d2 : decide ((1 : Int) < (N : Int)) = true := decide_eq_true (by omega)
            have hn_ : Blk (wr.alloc (.cells (r6V ⟨0, 0, 0, 0, 0, 0⟩).toArray 66)) wr.heap.size 66 (r6V ⟨0, 0, 0, 0, 0, 0⟩).toArray := Blk.new _ _ _
            have Hn_ := Lib.hid hn_
            clear hgy hy hcy hn_
            go_upto_region 12 with (first | (refine wpList_load_mid rfl 66 (.tmp 60) rfl b (off + j * 6) rfl (r6V y) _ Hgy.out und66 rfl (by rw [r6V_len]; kernel_rfl) ?_) | (refine wpList_alloc0 rfl 66 rfl (r6V ⟨0, 0, 0, 0, 0, 0⟩).toArray _ i66 hi66 hz66 rfl ?_; simp only [Act.put, List.setIfInBounds_toArray, List.set_cons_succ, List.set_cons_zero]) | (refine wpList_store_row rfl 66 (.tmp 8) (.tmp 61) rfl wr.heap.size (r6V y).toArray rfl rfl 66 (r6V ⟨0, 0, 0, 0, 0, 0⟩).toArray Hn_.out (size66 _ rfl) rfl (r6_one _) ?_))
            obtain ⟨w3, hw3⟩ : ∃ v, v = (wr.alloc (.cells (r6V ⟨0, 0, 0, 0, 0, 0⟩).toArray 66)).setRow wr.heap.size (r6V y).toArray := ⟨_, rfl⟩
            have hb3 : Below wr.heap.size wr w3 := by rw [hw3]; exact Below.setRow ((Below.refl _ _).alloc (Nat.le_refl _) _) (Nat.le_refl _) _
            have hL3 : Blk w3 wr.heap.size 66 (r6V y).toArray := by rw [hw3]; exact setRow_heap _ _ _ _ _ _ Hn_.out
            rw [← hw3]
            clear hw3 Hn_ g0 g1 r1 d1 d2 Hgy
            obtain ⟨yb, hyb⟩ : ∃ v, v = wr.heap.size := ⟨_, rfl⟩
            rw [← hyb] at hL3 ⊢
            clear hyb
            have hx0 := y.a.toNat_lt
            have hx1 := y.b.toNat_lt
            have hx2 := y.c.toNat_lt
            have e0 : w3.cell? ⟨yb, 0, none⟩ = some (.int .u8 (y.a.toNat : Int)) := by rw [hL3.cell]; rfl
            have e1 : w3.cell? ⟨yb, 1, none⟩ = some (.int .u8 (y.b.toNat : Int)) := by rw [hL3.cell]; rfl
            have HL3 := Lib.hid hL3
            replace Happ := Lib.hid (Happ.out.below hb3 (Nat.le_refl _))
            replace Hou := Lib.hid (Hou.out.below hb3)
            replace Hav := Lib.hid (Hav.out.below hb3 (Nat.le_refl _))
            replace Hov := Lib.hid (Hov.out.below hb3)
            replace HG := Lib.hid (HG.out.below hb3 HG.out.lt)
            replace HBr := Lib.hid (HBr.out.trans (hb3.mono hszr))
            clear hL3 hb3
            go_upto_region 13 with fail
            obtain ⟨F, hF⟩ : ∃ F, F = mkFrom N y := ⟨_, rfl⟩
            have hFi : (y.a.toNat : Int) % (N : Int) = (F : Int) := by rw [hF]; unfold mkFrom; omega
            have hFN : F < N := by rw [hF]; exact Nat.mod_lt _ (by omega)
            rw [hFi]
            have HF := Lib.hid hF
            clear hF hFi
            go_upto_region 14 with fail
            obtain ⟨T, hT⟩ : ∃ T, T = mkTo N y := ⟨_, rfl⟩
            have hTN : T < N := by rw [hT]; exact Nat.mod_lt _ (by omega)
            have hTi : (wrap64 ((F : Int) + 1 + (y.b.toNat : Int) % ((N : Int) - 1))).tmod (N : Int) = (T : Int) := by
              obtain ⟨M1, hM1⟩ : ∃ M1, M1 = N - 1 := ⟨_, rfl⟩
              have hzl : y.b.toNat % M1 < M1 := Nat.mod_lt _ (by omega)
              have e1 : (N : Int) - 1 = (M1 : Int) := by omega
              have e2 : (y.b.toNat : Int) % (M1 : Int) = ((y.b.toNat % M1 : Nat) : Int) := (Int.natCast_emod _ _).symm
              have hT2 : T = (F + 1 + y.b.toNat % M1) % N := by rw [hT, mkTo, ← HF.out, hM1]
              rw [e1, e2, hT2]
              generalize y.b.toNat % M1 = z at *
              rw [show wrap64 ((F : Int) + 1 + (z : Int)) = ((F + 1 + z : Nat) : Int) from by unfold wrap64; omega, Int.tmod_eq_emod_of_nonneg (by omega), ← Int.natCast_emod]
            rw [hTi]
            have HT := Lib.hid hT
            clear hTi hT e0 e1
            obtain ⟨_, _, ev, _, hrdv⟩ := Hav.out.rd
            cases ev
            obtain ⟨vb, vo, z1, ea, hz1, cz1⟩ := hrdv.at_ hFN
            obtain ⟨vb2, vo2, z2, ea2, hz2, cz2⟩ := hrdv.at_ hTN
            subst ea
            cases ea2
            have hvN : ∀ k, k < N → (verN xs N)[k]? = some ((vAt xs (k + 1) : Nat) : Int) := fun k hk => by
              unfold verN
              rw [List.getElem?_map, List.getElem?_range hk]; rfl
            rw [hvN F hFN] at hz1
            rw [hvN T hTN] at hz2
            obtain rfl := Option.some.inj hz1
            obtain rfl := Option.some.inj hz2
            have cz1' : w3.cell? ⟨vb, vo + F, none⟩ = some (.int .i64 ((vAt xs (F + 1) : Nat) : Int)) := cz1
            have cz2' : w3.cell? ⟨vb, vo + T, none⟩ = some (.int .i64 ((vAt xs (T + 1) : Nat) : Int)) := cz2
            have g0 : w3.cell? ⟨gb, 0, none⟩ = some (.slice (some ⟨vb, vo, none⟩) N cc1) := by rw [HG.out.cell]; rfl
            have g1 : w3.cell? ⟨gb, 1, none⟩ = some u := by rw [HG.out.cell]; rfl
            have e2 : w3.cell? ⟨yb, 2, none⟩ = some (.int .u8 (y.c.toNat : Int)) := by rw [HL3.out.cell]; rfl
            have e3 : w3.cell? ⟨yb, 3, none⟩ = some (.int .u8 (y.d.toNat : Int)) := by rw [HL3.out.cell]; rfl
            have e4 : w3.cell? ⟨yb, 4, none⟩ = some (.int .u8 (y.e.toNat : Int)) := by rw [HL3.out.cell]; rfl
            have e5 : w3.cell? ⟨yb, 5, none⟩ = some (.int .u8 (y.f.toNat : Int)) := by rw [HL3.out.cell]; rfl
            obtain ⟨V1, hV1⟩ : ∃ V1, V1 = vAt xs (F + 1) := ⟨_, rfl⟩
            obtain ⟨V2, hV2⟩ : ∃ V2, V2 = vAt xs (T + 1) := ⟨_, rfl⟩
            rw [← hV1] at cz1'
            rw [← hV2] at cz2'
            have HV1 := Lib.hid hV1
            have HV2 := Lib.hid hV2
            have g0r := cell_regrown g0
            have g1r := cell_regrown g1
            have c1r := cell_regrown cz1'
            have c2r := cell_regrown cz2'
            have e2r := cell_regrown e2
            have e3r := cell_regrown e3
            have e4r := cell_regrown e4
            have e5r := cell_regrown e5
            clear hz1 hz2 hvN hrdv cz1 cz2 cz1' cz2' g0 g1 e2 e3 e4 e5 hV1 hV2
            refine wp_region_reads_tail 26 [0, 1, 2, 3, 4, 5, 6, 7, 8, 9, 10, 11, 12, 13, 14, 15, 16, 17, 18, 19, 20, 21] 4 (by kernel_rfl) (List.take_append_drop _ _) rfl (by kernel_rfl) (by kernel_rfl) (by kernel_rfl) (by decide) (by kernel_rfl) (by kernel_rfl) (fun _ _ d _ _ h => by cases d <;> exact h) (by kernel_rfl) (by kernel_rfl) rfl ?_
            simp only [List.take_succ_cons, List.take_zero, List.drop_succ_cons, List.drop_zero, pickOps, List.getElem?_cons_zero, List.getElem?_cons_succ]
            repeat (go_big_quiet_step (fail))
            refine wpQuiet_nil ?_
            clear g0r g1r c1r c2r e2r e3r e4r e5r
            refine web_start0 (fs := []) [.act 22 [], .act 23 [], .act 24 [], .act 25 []] _ _ (by kernel_rfl) (fun _ _ d _ _ h => by cases d <;> exact h) trivial (by decide) (by decide) (by kernel_rfl) (by kernel_rfl) (ext_drew (ext_refl _)) (by intro F hF; simp at hF) 4 (by decide) (by kernel_rfl) ?_
            intro v1 W hW _ o ho K hK
            cases ho
            have hbW : Below w3.heap.size w3 W := ((Below.refl _ w3).drew).trans hW
            simp only [putS, List.foldl_nil, Act.put]
            unfold StepP
            go_simp
            refine hK _ _ (by intro F hF; simp at hF) (Below.refl _ _) ?_
            clear hK K hW
            intro v2 W3 hW3 _ o ho K hK
            cases ho
            have hb3 := hbW.trans (hW3.mono hbW.size)
            simp only [putS, List.foldl_nil, Act.put]
            have Hnd := Lib.hid (Need_any y.d y.e y.f W3)
            unfold StepP
            go_simp
            refine Hnd.out.mono ?_
            rintro e W4 ⟨rfl, hb4⟩
            refine hK _ _ (by intro F hF; simp at hF) hb4 ?_
            have hb4 := hb3.trans (hb4.mono hb3.size)
            clear hK K Hnd hW3
            intro v3 W5 hW5 _ o ho K hK
            cases ho
            have hb5 := hb4.trans (hW5.mono hb4.size)
            simp only [putS, List.foldl_nil, Act.put]
            obtain ⟨ln, hln⟩ : ∃ ln : Ln, ln = ⟨(V1 : Int), (V2 : Int), ((y.c.toNat % 8 : Nat) : Int), needN y.d y.e y.f⟩ := ⟨_, rfl⟩
            have hbl := built53 ⟨(V1 : Int), (V2 : Int), ((y.c.toNat % 8 : Nat) : Int), needN y.d y.e y.f⟩
            rw [← hln] at hbl
            have Hbl := Lib.hid hbl
            refine step_buildN rfl 53 _ rfl [(0, .int .i64 (V1 : Int)), (1, .int .i64 (V2 : Int)), (2, .int .i64 ((y.c.toNat % 8 : Nat) : Int)), (3, .agg (ndV (needN y.d y.e y.f)).toArray)] rfl (lnV ln).toArray (by rw [hln] at hbl ⊢; exact hbl) ?_
            refine hK _ _ (by intro F hF; simp at hF) (Below.refl _ _) ?_
            clear hK K hbl hW5
            intro v4 W6 hW6 _ o ho K hK
            cases ho
            have hb6 := hb5.trans (hW6.mono hb5.size)
            simp only [putS, List.foldl_nil, Act.put, List.setIfInBounds_toArray, List.set_cons_succ, List.set_cons_zero]
            refine step_build1 rfl 31 53 (.tmp 102) rfl (lnV ln).toArray i53 _ 8 Try.underlying31 hi53 hz53 hs53 (by omega) (by omega) rfl rfl ?_
            have hrd7 := Blk.rdN (w := W6) (e := 53) (lnV ln) (lnV_len ln)
            have Hrd7 := Lib.hid hrd7
            have hb7 := hb6.trans (((Below.refl W6.heap.size W6).alloc (Nat.le_refl _) (.cells (lnV ln).toArray 53)).mono hb6.size)
            refine hK _ _ (by intro F hF; simp at hF) ((Below.refl _ _).alloc (Nat.le_refl _) _) ?_
            clear hK K hW6 hrd7
            intro v5 W8 hW8 _
            have hb8 := hb7.trans (hW8.mono hb7.size)
            have Hrd8 := Lib.hid (Hrd7.out.below hW8)
            have HG8 := Lib.hid (HG.out.below hb8 HG.out.lt)
            have Hou8 := Lib.hid (Hou.out.below hb8)
            have Happ8 := Lib.hid (Happ.out.below hb8 (Nat.le_refl _))
            have Hav8 := Lib.hid (Hav.out.below hb8 (Nat.le_refl _))
            have Hov8 := Lib.hid (Hov.out.below hb8)
            have HBr8 := Lib.hid (HBr.out.trans (hb8.mono HBr.out.size))
            simp only [Exit.then, putS, List.foldl_nil, Act.put, List.setIfInBounds_toArray, List.set_cons_succ, List.set_cons_zero]
            clear hb8 hb7 hb6 hb5 hb4 hb3 hbW hW8
            have hkb : ∀ (W9 : World), W8.grownBy W9 u.ownBlock → Blk W9 gb 33 #[.slice (some ⟨vb, vo, none⟩) N cc1, u] := fun W9 hg => HG8.out.kept hg (fun e => by
              obtain ⟨cur, hc⟩ := Hou8.out gb e.symm
              exact (hc.ne HG8.out (by decide)) rfl)
            have hcell : ∀ (W9 : World), W8.grownBy W9 u.ownBlock → W9.cell? ⟨gb, 1, none⟩ = some u := fun W9 hg => by rw [(hkb W9 hg).cell]; rfl
            have hkeep : ∀ (W9 : World), W8.grownBy W9 u.ownBlock → W9.frozen? ⟨gb, 1, none⟩ = false := fun W9 hg => (hkb W9 hg).frozen 1
            have hsz8 : w1.heap.size ≤ W8.heap.size := HBr8.out.size
            go_wp2_with (at_builtin; go_loud (refine wpList_appz rfl (.tmp 79) (.tmp 103) 31 rfl 53 i53 (.agg (lnV ln0).toArray) 8 64 Try.underlying31 hi53 hz53 hs53 hy53 rfl (by omega) w1.heap.size hsz8 u j _ rfl Happ8.out (some ⟨W6.heap.size, 0, none⟩) 1 1 (lnV ln) rfl Hrd8.out (fun v hv => by have := List.all_eq_true.1 (show (lnV ln).all (·.oneCell') = true by simpa using ln_one ln) v hv; exact this) (by unfold maxLen; omega) (by omega) ?_; intro v9 w9 happ9 hg9; obtain ⟨A9, c9, rfl, hc9, _⟩ := happ9.rd; have hfz9 := hkeep w9 hg9; have hcl9 := hcell w9 hg9))
            have hG9 := hkb w9 hg9
            have hKn := (KeptIn.refl (fun k => k ≠ gb) w9).setAt (p := ⟨gb, 1, none⟩) (fun h => h rfl) (.slice A9 (j + 1) c9)
            have hown9 : Own w9 53 (.slice A9 (j + 1) c9) := Own.of happ9 (by omega)
            have hln2 : ln = mkLn xs N y := by rw [hln, HV1.out, HV2.out, HF.out, HT.out]; rfl
            have htk : (ys.take (j + 1)).map (mkLn xs N) = (ys.take j).map (mkLn xs N) ++ [ln] := by
              rw [List.take_add_one, Hy.out, hln2]; simp
            have happ9' : AppZ w9 w1.heap.size 53 8 (.slice A9 (j + 1) c9) (j + 1) (((ys.take (j + 1)).map (mkLn xs N)).flatMap lnV) := by
              rw [htk, List.flatMap_append]
              simpa using happ9
            have hav9 := Hav8.out.grown hg9 (fun g e => Hou8.out g e) (by decide)
            have hov9 : Own w9 3 (.slice (some ⟨vb, vo, none⟩) N cc1) := fun g e => by
              obtain ⟨cur, hc⟩ := Hov8.out g e
              exact ⟨cur, hc.kept hg9 (fun e2 => by
                obtain ⟨cur2, hc2⟩ := Hou8.out g e2.symm
                exact (hc2.ne hc (by decide)) rfl)⟩
            have hlt9 : ∀ g, u.ownBlock = some g → w1.heap.size ≤ g := fun g e => (Happ8.out.lt g e).1
            have hB9 : Below w1.heap.size w1 w9 := HBr8.out.grown hg9 hsz8 hlt9
            have hgb9 := Hgb.out
            exact ⟨⟨j + 1, .slice A9 (j + 1) c9, by go_num, by omega, by omega, .inr h3, happ9'.keptIn hG9 (by decide) hKn, hown9.keptIn hG9 (by decide) hKn, hav9.keptIn hG9 (by decide) hKn, hov9.keptIn hG9 (by decide) hKn, heap_setCell_same w9 gb 1 _ 33 (.slice A9 (j + 1) c9) hG9, hB9.setCell (by show w1.heap.size ≤ gb; omega) _⟩, by simp [intOf]; omega⟩
          · have hM : madeM xs ys = j := by
              unfold madeM
              rw [Hxl.out, Hyl.out, ← HN.out]
              rcases Hj0.out with h0 | h0
              · by_cases h1 : 1 < N
                · rw [if_pos h1]; omega
                · rw [if_neg h1]; omega
              · rw [if_pos h0]; omega
            have hL : madeL xs ys = (ys.take j).map (mkLn xs N) := by
              unfold madeL
              rw [Hxl.out, ← HN.out]
              rcases Hj0.out with h0 | h0
              · by_cases h1 : 1 < N
                · rw [if_pos h1]
                  have h2 : j = m ∨ j = 14 := by omega
                  rcases h2 with h2 | h2
                  · rw [List.take_of_length_le (by have := Hyl.out; omega), List.take_of_length_le (by have := Hyl.out; omega)]
                  · rw [h2]
                · rw [if_neg h1, h0]; simp
              · rw [if_pos h0]
                have h2 : j = m ∨ j = 14 := by omega
                rcases h2 with h2 | h2
                · rw [List.take_of_length_le (by have := Hyl.out; omega), List.take_of_length_le (by have := Hyl.out; omega)]
                · rw [h2]
            obtain ⟨A2, cc2, rfl, hcc2, _⟩ := Happ.out.rd
            have HM := Lib.hid hM
            have HLs := Lib.hid hL
            have hO := HO.out.below HBr.out HO.out.lt
            have HO2 := Lib.hid hO
            have HBx := Lib.hid (HB.out.trans (HBr.out.mono HB.out.size))
            have fin : ∀ (cells : Array Value), AppZ (wr.setRow (w.heap.size + 1) cells) w.heap.size 3 1 (.slice A1 N cc1) N ((verN xs N).map intV) ∧ AppZ (wr.setRow (w.heap.size + 1) cells) w.heap.size 53 8 (.slice A2 j cc2) j (((ys.take j).map (mkLn xs N)).flatMap lnV) ∧ Below w.heap.size w (wr.setRow (w.heap.size + 1) cells) := fun cells =>
              ⟨(Hav.out.setRow HO2.out (by decide)).mono hsz1, (Happ.out.setRow HO2.out (by decide)).mono hsz1, Below.setRow HBx.out (by omega) cells⟩
            have Fin := Lib.hid fin
            clear hM hL hO fin
            rcases (by omega : j = m ∨ (j < m ∧ j = 14) ∨ (j < m ∧ j < 14 ∧ N ≤ 1)) with h1 | ⟨h1, h2⟩ | ⟨h1, h2, h3⟩
            · have q1 : decide ((j : Int) < (m : Int)) = false := decide_eq_false (by omega)
              have q2 : decide (j < m) = false := decide_eq_false (by omega)
              clear hlt h1
              go_wp2_with (first | (refine wpList_load_mid rfl 33 (.tmp 3) rfl gb 0 rfl (grV A1 N cc1 A2 j cc2) d33 (Blk.range HG.out) hd33 hrow33 (by rw [grV_len]; kernel_rfl) ?_) | (refine wpList_store_row rfl 33 (.tmp 2) (.tmp 106) rfl (w.heap.size + 1) (grV A1 N cc1 A2 j cc2).toArray rfl rfl 33 (grV none 0 0 none 0 0).toArray HO2.out (size33 _ rfl) rfl (gr_one _ _ _ _ _ _) ?_))
              obtain ⟨f1, f2, f3⟩ := Fin.out (grV A1 N cc1 A2 j cc2).toArray
              refine bodyPost_ret (results_cell_row rfl _ _ (w.heap.size + 1) 33 (grV A1 N cc1 A2 j cc2).toArray (0, 0) d33 rfl (setRow_heap _ _ _ _ _ _ HO2.out) hd33 (by cases d33 <;> first | rfl | exact hrow33) (size33 _ rfl)) rfl ⟨⟨A1, cc1, A2, cc2, by rw [HM.out, ← HN.out], by rw [← HN.out]; exact f1, by rw [HM.out, HLs.out]; exact f2⟩, f3⟩
            · have q1 : decide ((j : Int) < 14) = false := decide_eq_false (by omega)
              have q2 : decide (j < 14) = false := decide_eq_false (by omega)
              clear hlt h2
              go_wp2_with (first | (refine wpList_load_mid rfl 33 (.tmp 3) rfl gb 0 rfl (grV A1 N cc1 A2 j cc2) d33 (Blk.range HG.out) hd33 hrow33 (by rw [grV_len]; kernel_rfl) ?_) | (refine wpList_store_row rfl 33 (.tmp 2) (.tmp 106) rfl (w.heap.size + 1) (grV A1 N cc1 A2 j cc2).toArray rfl rfl 33 (grV none 0 0 none 0 0).toArray HO2.out (size33 _ rfl) rfl (gr_one _ _ _ _ _ _) ?_))
              obtain ⟨f1, f2, f3⟩ := Fin.out (grV A1 N cc1 A2 j cc2).toArray
              refine bodyPost_ret (results_cell_row rfl _ _ (w.heap.size + 1) 33 (grV A1 N cc1 A2 j cc2).toArray (0, 0) d33 rfl (setRow_heap _ _ _ _ _ _ HO2.out) hd33 (by cases d33 <;> first | rfl | exact hrow33) (size33 _ rfl)) rfl ⟨⟨A1, cc1, A2, cc2, by rw [HM.out, ← HN.out], by rw [← HN.out]; exact f1, by rw [HM.out, HLs.out]; exact f2⟩, f3⟩
            · have q1 : decide ((1 : Int) < (N : Int)) = false := decide_eq_false (by omega)
              have q2 : decide (1 < N) = false := decide_eq_false (by omega)
              have q3 : decide ((j : Int) < 14) = true := decide_eq_true (by omega)
              clear hlt
              go_wp2_with (first | (refine wpList_load_mid rfl 33 (.tmp 3) rfl gb 0 rfl (grV A1 N cc1 A2 j cc2) d33 (Blk.range HG.out) hd33 hrow33 (by rw [grV_len]; kernel_rfl) ?_) | (refine wpList_store_row rfl 33 (.tmp 2) (.tmp 106) rfl (w.heap.size + 1) (grV A1 N cc1 A2 j cc2).toArray rfl rfl 33 (grV none 0 0 none 0 0).toArray HO2.out (size33 _ rfl) rfl (gr_one _ _ _ _ _ _) ?_))
              obtain ⟨f1, f2, f3⟩ := Fin.out (grV A1 N cc1 A2 j cc2).toArray
              refine bodyPost_ret (results_cell_row rfl _ _ (w.heap.size + 1) 33 (grV A1 N cc1 A2 j cc2).toArray (0, 0) d33 rfl (setRow_heap _ _ _ _ _ _ HO2.out) hd33 (by cases d33 <;> first | rfl | exact hrow33) (size33 _ rfl)) rfl ⟨⟨A1, cc1, A2, cc2, by rw [HM.out, ← HN.out], by rw [← HN.out]; exact f1, by rw [HM.out, HLs.out]; exact f2⟩, f3⟩
end Go.Proofs.Ytgelchbbknckcaa
