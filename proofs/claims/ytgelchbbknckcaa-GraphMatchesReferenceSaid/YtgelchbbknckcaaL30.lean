/- What a law's walk is told of its arguments: graphs, needs, two numbers of 32 bits. -/
import Derived.Test.YtgelchbbknckcaaL29
namespace Go.Proofs.Ytgelchbbknckcaa
open Go.ChangeShapes Go.WideShapes Go.ChangeAt Go.RowKit Go.Deep

theorem underlying3' : Try.prog.underlying 3 = some (.int .i64) := by kernel_rfl
theorem cellsOf3 : Try.prog.cellsOf 3 = 1 := by kernel_rfl
theorem underlying32' : Try.prog.underlying 21 = some (.int .i32) := by kernel_rfl
theorem cellsOf32 : Try.prog.cellsOf 21 = 1 := by kernel_rfl
theorem rd_ints {W : World} {x : Addr} {len cap : Nat} {zs : List Int} (hl : len ≤ cap) (hm : cap ≤ maxLen) (hz : zs.length = cap)
    (hcell : ∀ i, i < zs.length → W.cell? (x.add i) = some (.int .i64 (zs.getD i 0))) : Rd W 1 (some x) len ((zs.take len).map intV) := by
  refine ⟨by simp; omega, by have : maxLen = 9223372036854775807 := rfl; omega, fun hpos => ?_⟩
  obtain ⟨b, off, spot⟩ := x
  have hc := hcell 0 (by omega)
  have hspot : spot = none := by simpa [Addr.add] using World.cell?_spot hc
  subst hspot
  refine ⟨b, off, rfl, fun j u hu => ?_⟩
  have hj : j < len := by
    have := (List.getElem?_eq_some_iff.1 hu).1
    simp at this
    omega
  have hcj := hcell j (by omega)
  rw [List.getElem?_map, List.getElem?_take, if_pos hj, List.getElem?_eq_getElem (by omega)] at hu
  simp only [Option.map_some, Option.some.injEq] at hu
  subst hu
  rw [List.getD_eq_getElem?_getD, List.getElem?_eq_getElem (by omega), show (⟨b, off, none⟩ : Addr).add j = ⟨b, off + j, none⟩ from by simp only [Addr.add]; split <;> simp_all] at hcj
  exact hcj
theorem open_intsG {H : Type} {enc : TypeId × Value → H} {W : World} {a : Option Addr} {len cap : Nat} {d : DataW H} {p : List MemPlace}
    (h : DataW.Trod enc Try.prog W 0 (fun _ => true) true 30 (.slice a len cap) d p) : ∃ zs : List Int, Rd W 1 a len (zs.map intV) := by
  obtain ⟨fuel, hf⟩ := h
  rcases open_ints Try.underlying30 underlying3' cellsOf3 hf with ⟨hcs, _⟩ | ⟨x, l, c, zs, hcs, _, hl, hm, hz, _, hcell, _⟩
  · simp [Value.cells] at hcs
    obtain ⟨rfl, rfl, rfl⟩ := hcs
    exact ⟨[], Rd.nil _ _ _⟩
  · simp [Value.cells] at hcs
    obtain ⟨rfl, rfl, rfl⟩ := hcs
    exact ⟨_, rd_ints hl hm (by simpa using hz) hcell⟩
theorem int_of_trod {H : Type} {enc : TypeId × Value → H} {W : World} {base : Nat} {sp : Nat → Bool} {held : Bool} {fuel : Nat} {cs : List Value} {y : DataW H × List MemPlace}
    (h : DataW.trod enc Try.prog W base sp held fuel 3 cs = some y) : ∃ z : Int, cs = [.int .i64 z] := by
  obtain ⟨z, hc, _, _⟩ := DataW.trod_int underlying3' h
  exact ⟨z, hc⟩
theorem und28s : ∃ f0 f1 f2 f3 f4 : Field, Try.prog.underlying 28 = some (.struct #[f0, f1, f2, f3, f4]) ∧ (f0.type = 3 ∧ f0.offset = 0) ∧ (f1.type = 3 ∧ f1.offset = 1) ∧ (f2.type = 3 ∧ f2.offset = 2) ∧ (f3.type = 3 ∧ f3.offset = 3) ∧ (f4.type = 3 ∧ f4.offset = 4) := by
  obtain ⟨d, h1, h2⟩ := Option.map_eq_some_iff.1 (show (Try.prog.underlying 28).map shapeOf = some [(3, 0), (3, 1), (3, 2), (3, 3), (3, 4)] by kernel_rfl)
  obtain ⟨fs, rfl, h3⟩ := shape_struct h2
  obtain ⟨l⟩ := fs
  match l, h3 with
  | [f0, f1, f2, f3, f4], h3 =>
    simp at h3
    exact ⟨f0, f1, f2, f3, f4, h1, h3.1, h3.2.1, h3.2.2.1, h3.2.2.2.1, h3.2.2.2.2⟩
theorem cells28 : Try.prog.cellsOf 28 = 5 := by kernel_rfl
theorem cells53 : Try.prog.cellsOf 53 = 8 := by kernel_rfl
theorem need_of_trod {H : Type} {enc : TypeId × Value → H} {W : World} {base : Nat} {sp : Nat → Bool} {held : Bool} {fuel : Nat} {cs : List Value} {y : DataW H × List MemPlace}
    (h : DataW.trod enc Try.prog W base sp held fuel 28 cs = some y) : ∃ z : Nd, cs = ndV z := by
  obtain ⟨f0, f1, f2, f3, f4, hu, ⟨t0, o0⟩, ⟨t1, o1⟩, ⟨t2, o2⟩, ⟨t3, o3⟩, ⟨t4, o4⟩⟩ := und28s
  obtain ⟨xs, n, _, rfl, hl, hlen, hf⟩ := DataW.trod_struct hu h
  rw [cells28] at hl
  have e0 := hf 0 f0 rfl
  have e1 := hf 1 f1 rfl
  have e2 := hf 2 f2 rfl
  have e3 := hf 3 f3 rfl
  have e4 := hf 4 f4 rfl
  rw [t0, o0, cellsOf3] at e0
  rw [t1, o1, cellsOf3] at e1
  rw [t2, o2, cellsOf3] at e2
  rw [t3, o3, cellsOf3] at e3
  rw [t4, o4, cellsOf3] at e4
  match xs, hlen with
  | [y0, y1, y2, y3, y4], _ =>
  match cs, hl with
  | [c0, c1, c2, c3, c4], _ =>
    obtain ⟨z0, q0⟩ := int_of_trod e0
    obtain ⟨z1, q1⟩ := int_of_trod e1
    obtain ⟨z2, q2⟩ := int_of_trod e2
    obtain ⟨z3, q3⟩ := int_of_trod e3
    obtain ⟨z4, q4⟩ := int_of_trod e4
    simp at q0 q1 q2 q3 q4
    subst q0 q1 q2 q3 q4
    exact ⟨⟨z0, z1, z2, z3, z4⟩, rfl⟩
theorem und53s : ∃ f0 f1 f2 f3 : Field, Try.prog.underlying 53 = some (.struct #[f0, f1, f2, f3]) ∧ (f0.type = 3 ∧ f0.offset = 0) ∧ (f1.type = 3 ∧ f1.offset = 1) ∧ (f2.type = 3 ∧ f2.offset = 2) ∧ (f3.type = 28 ∧ f3.offset = 3) := by
  obtain ⟨d, h1, h2⟩ := Option.map_eq_some_iff.1 (show (Try.prog.underlying 53).map shapeOf = some [(3, 0), (3, 1), (3, 2), (28, 3)] by kernel_rfl)
  obtain ⟨fs, rfl, h3⟩ := shape_struct h2
  obtain ⟨l⟩ := fs
  match l, h3 with
  | [f0, f1, f2, f3], h3 =>
    simp at h3
    exact ⟨f0, f1, f2, f3, h1, h3.1, h3.2.1, h3.2.2.1, h3.2.2.2⟩
theorem link_of_trod {H : Type} {enc : TypeId × Value → H} {W : World} {base : Nat} {sp : Nat → Bool} {held : Bool} {fuel : Nat} {cs : List Value} {y : DataW H × List MemPlace}
    (h : DataW.trod enc Try.prog W base sp held fuel 53 cs = some y) : ∃ l : Ln, cs = lnV l := by
  obtain ⟨f0, f1, f2, f3, hu, ⟨t0, o0⟩, ⟨t1, o1⟩, ⟨t2, o2⟩, ⟨t3, o3⟩⟩ := und53s
  obtain ⟨xs, n, _, rfl, hl, hlen, hf⟩ := DataW.trod_struct hu h
  rw [cells53] at hl
  have e0 := hf 0 f0 rfl
  have e1 := hf 1 f1 rfl
  have e2 := hf 2 f2 rfl
  have e3 := hf 3 f3 rfl
  rw [t0, o0, cellsOf3] at e0
  rw [t1, o1, cellsOf3] at e1
  rw [t2, o2, cellsOf3] at e2
  rw [t3, o3, cells28] at e3
  match xs, hlen with
  | [y0, y1, y2, y3], _ =>
  match cs, hl with
  | [c0, c1, c2, c3, c4, c5, c6, c7], _ =>
    obtain ⟨z0, q0⟩ := int_of_trod e0
    obtain ⟨z1, q1⟩ := int_of_trod e1
    obtain ⟨z2, q2⟩ := int_of_trod e2
    obtain ⟨nd, q3⟩ := need_of_trod e3
    simp at q0 q1 q2
    subst q0 q1 q2
    refine ⟨⟨z0, z1, z2, nd⟩, ?_⟩
    unfold lnV
    rw [← q3]
    rfl
set_option maxRecDepth 100000 in
/-- The links of a graph, as they came in. -/
theorem open_links {H : Type} {enc : TypeId × Value → H} {W : World} {a : Option Addr} {len cap : Nat} {d : DataW H} {p : List MemPlace}
    (h : DataW.Trod enc Try.prog W 0 (fun _ => true) true 31 (.slice a len cap) d p) : ∃ ls : List Ln, Rd W 8 a len (ls.flatMap lnV) := by
  obtain ⟨fuel, hf⟩ := h
  rcases open_slice Try.underlying31 hf with ⟨hcs, _⟩ | ⟨x, l, c, m, n, D, Pl, hcs, _, hl, hm, hmm, _, hx⟩
  · simp [Value.cells] at hcs
    obtain ⟨rfl, rfl, rfl⟩ := hcs
    exact ⟨[], Rd.nil _ _ _⟩
  · simp [Value.cells] at hcs
    obtain ⟨rfl, rfl, rfl⟩ := hcs
    have hmc : m = cap := by rw [hmm]; simp
    rw [cells53] at hx
    have each : ∀ i, i < len → ∃ s : Ln, W.cells? 0 (x.add (i * 8)) 8 = some (lnV s) := fun i hi => by
      obtain ⟨cs', h1, h2⟩ := hx i (by omega)
      obtain ⟨s, rfl⟩ := link_of_trod h2
      exact ⟨s, h1⟩
    have : Inhabited Ln := ⟨ln0⟩
    obtain ⟨F, hF⟩ := choose_lt (α := Ln) (p := fun i s => W.cells? 0 (x.add (i * 8)) 8 = some (lnV s)) each
    refine ⟨(List.range len).map F, ⟨by rw [flat_length lnV_len]; simp, by have : maxLen = 9223372036854775807 := rfl; omega, fun hp => ?_⟩⟩
    obtain ⟨b, off, spot⟩ := x
    have hc0 := (World.cells?_some (hF 0 hp)).2.2 0 (by omega)
    have hspot : spot = none := by
      rw [List.getElem?_eq_getElem (by rw [lnV_len]; omega)] at hc0
      simpa [Addr.add] using World.cell?_spot hc0
    subst hspot
    refine ⟨b, off, rfl, fun j u hu => ?_⟩
    have hj : j < len * 8 := by
      have := (List.getElem?_eq_some_iff.1 hu).1
      rw [flat_length lnV_len] at this
      simpa using this
    have hk : j / 8 < len := by omega
    have hmod : j % 8 < 8 := Nat.mod_lt _ (by omega)
    have hg := flat_get (f := lnV) lnV_len ((List.range len).map F) (j / 8) (j % 8) (F (j / 8)) (by rw [List.getElem?_map, List.getElem?_range hk]; rfl) hmod
    rw [show j / 8 * 8 + j % 8 = j from by omega, hu] at hg
    have h1 := (World.cells?_some (hF (j / 8) hk)).2.2 (j % 8) hmod
    rw [← hg] at h1
    rw [← h1]
    refine congrArg W.cell? ?_
    have : ∀ (n : Nat), (⟨b, off, none⟩ : Addr).add n = ⟨b, off + n, none⟩ := fun n => by unfold Addr.add; split <;> simp_all
    rw [this]
    have h2 : (⟨b, off + j / 8 * 8, none⟩ : Addr).add (j % 8) = ⟨b, off + j / 8 * 8 + j % 8, none⟩ := by unfold Addr.add; split <;> simp_all
    rw [h2]
    congr 1
    omega
theorem und33s : ∃ f0 f1 : Field, Try.prog.underlying 33 = some (.struct #[f0, f1]) ∧ f0.type = 30 ∧ f0.offset = 0 ∧ f1.type = 31 ∧ f1.offset = 1 := by
  obtain ⟨d, h1, h2⟩ := Option.map_eq_some_iff.1 (show (Try.prog.underlying 33).map shapeOf = some [(30, 0), (31, 1)] by kernel_rfl)
  obtain ⟨fs, rfl, h3⟩ := shape_struct h2
  obtain ⟨l⟩ := fs
  match l, h3 with
  | [f0, f1], h3 =>
    simp at h3
    exact ⟨f0, f1, h1, h3.1.1, h3.1.2, h3.2.1, h3.2.2⟩
theorem size30c : Try.prog.cellsOf 30 = 1 := by kernel_rfl
theorem size31c : Try.prog.cellsOf 31 = 1 := by kernel_rfl
theorem size33c : Try.prog.cellsOf 33 = 2 := by kernel_rfl
/-- A graph, as it came in. -/
theorem open_graph {H : Type} {enc : TypeId × Value → H} {W : World} {r : Reach} {b0 : Nat} {v : Value} {d : DataW H} {p : List MemPlace} (hval : Value.okWide Try.prog W r b0 33 v)
    (h : DataW.Trod enc Try.prog W 0 (fun _ => true) true 33 v d p) : ∃ (A : Option Addr) (n c : Nat) (B : Option Addr) (m e : Nat) (xs : List Int) (ys : List Ln), v = .agg (grV A n c B m e).toArray ∧ Rd W 1 A n (xs.map intV) ∧ Rd W 8 B m (ys.flatMap lnV) := by
  obtain ⟨f0, f1, hu, t0, o0, t1, o1⟩ := und33s
  obtain ⟨cs, rfl, h2⟩ := okWide_struct hu hval
  rw [size33c] at h2
  obtain ⟨l⟩ := cs
  match l, h2 with
  | [c0, c1], _ =>
    obtain ⟨fuel, hf⟩ := h
    obtain ⟨y0, y1, k, _, _, h0, h1⟩ := trod_struct2 hu hf
    rw [t0, o0, size30c] at h0
    rw [t1, o1, size31c] at h1
    obtain ⟨A, n, c, rfl⟩ := slice_of_trod (v := c0) Try.underlying30 h0
    obtain ⟨B, m, e, rfl⟩ := slice_of_trod (v := c1) Try.underlying31 h1
    obtain ⟨xs, hx⟩ := open_intsG (a := A) (len := n) (cap := c) (d := y0.1) (p := y0.2) ⟨k, h0⟩
    obtain ⟨ys, hy⟩ := open_links (a := B) (len := m) (cap := e) (d := y1.1) (p := y1.2) ⟨k, h1⟩
    exact ⟨A, n, c, B, m, e, xs, ys, rfl, hx, hy⟩
/-- A need, as it came in. -/
theorem open_need {H : Type} {enc : TypeId × Value → H} {W : World} {r : Reach} {b0 : Nat} {v : Value} {d : DataW H} {p : List MemPlace} (hval : Value.okWide Try.prog W r b0 28 v)
    (h : DataW.Trod enc Try.prog W 0 (fun _ => true) true 28 v d p) : ∃ z : Nd, v = .agg (ndV z).toArray := by
  obtain ⟨f0, f1, f2, f3, f4, hu, _⟩ := und28s
  obtain ⟨cs, rfl, _⟩ := okWide_struct hu hval
  obtain ⟨fuel, hf⟩ := h
  obtain ⟨z, hz⟩ := need_of_trod (cs := cs.toList) hf
  exact ⟨z, by rw [← hz]⟩
set_option maxRecDepth 100000 in
/-- Two numbers of 32 bits, as they came in. -/
theorem open_two32 {H : Type} {enc : TypeId × Value → H} {W : World} {r : Reach} {b0 : Nat} {v : Value} {d : DataW H} {p : List MemPlace} (hval : Value.okWide Try.prog W r b0 48 v)
    (h : DataW.Trod enc Try.prog W 0 (fun _ => true) true 48 v d p) : ∃ x y : Int, v = .agg #[.int .i32 x, .int .i32 y] ∧ (-2147483648 ≤ x ∧ x ≤ 2147483647) ∧ (-2147483648 ≤ y ∧ y ≤ 2147483647) := by
  have hu : Try.prog.underlying 48 = some (.array 2 21) := by kernel_rfl
  have hT : Try.prog.cellsOf 48 = 2 := by kernel_rfl
  simp only [Value.okWide, hu] at hval
  obtain ⟨cs, rfl, h2, _⟩ := hval
  rw [hT] at h2
  obtain ⟨l⟩ := cs
  match l, h2 with
  | [c0, c1], _ =>
    obtain ⟨fuel, hf⟩ := h
    cases fuel with
    | zero => simp [DataW.trod] at hf
    | succ fuel =>
      rw [DataW.trod_step] at hf
      unfold DataW.trodStep at hf
      simp only [hu] at hf
      rw [if_pos (by rw [hT]; rfl)] at hf
      obtain ⟨xs, hm, _⟩ := Option.map_eq_some_iff.1 hf
      have hb : ∀ i, i < 2 → ∃ z : Int, [c0, c1][i]? = some (.int .i32 z) ∧ -2147483648 ≤ z ∧ z ≤ 2147483647 := fun i hi => by
        obtain ⟨y, _, hy⟩ := Lib.mapM_at hm i i (by simp [hi])
        obtain ⟨z, hc, _, hw⟩ := DataW.trod_int underlying32' hy
        rw [cellsOf32, Nat.mul_one] at hc
        refine ⟨z, ?_, bounds_i32 hw⟩
        have := congrArg (·[0]?) hc
        simpa [List.getElem?_take, List.getElem?_drop, Value.cells] using this
      obtain ⟨x, hx, bx⟩ := hb 0 (by omega)
      obtain ⟨y, hy, bY⟩ := hb 1 (by omega)
      simp at hx hy
      subst hx hy
      exact ⟨x, y, rfl, bx, bY⟩
end Go.Proofs.Ytgelchbbknckcaa
