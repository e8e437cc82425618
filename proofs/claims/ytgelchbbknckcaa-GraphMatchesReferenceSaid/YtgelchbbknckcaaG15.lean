/- Package graph: ways, the walk. -/
import Derived.Test.YtgelchbbknckcaaG14
namespace Go.Proofs.Ytgelchbbknckcaa
open Go.RowKit Go.Sort

theorem made4 (k : Nat) (hk : k ≤ 16) : madeCells (Value.agg (wyC none 0 0 0 false false).toArray).cells (k * 4) = ((List.replicate k wm0).flatMap wmV).toArray := by
  rcases (by omega : k = 0 ∨ k = 1 ∨ k = 2 ∨ k = 3 ∨ k = 4 ∨ k = 5 ∨ k = 6 ∨ k = 7 ∨ k = 8 ∨ k = 9 ∨ k = 10 ∨ k = 11 ∨ k = 12 ∨ k = 13 ∨ k = 14 ∨ k = 15 ∨ k = 16) with rfl | rfl | rfl | rfl | rfl | rfl | rfl | rfl | rfl | rfl | rfl | rfl | rfl | rfl | rfl | rfl | rfl <;> kernel_rfl
theorem mkWays (w : World) (k : Nat) (hk : k ≤ 16) : (Instr.makeSlice 67 (.int .i64 (k : Int)) (.int .i64 (k : Int))).run Try.prog w = .ok (.slice (some ⟨w.heap.size, 0, none⟩) k k) (w.alloc (.cells ((List.replicate k wm0).flatMap wmV).toArray 70)) := by
  obtain ⟨i0, hi0, hz0, hz1, hz2⟩ := info_parts info70
  rw [run_makeSlice w 67 70 i0 _ Try.underlying67 hi0 hz0 .i64 .i64 (k : Int) (k : Int) (by omega) (Int.le_refl _) (by rw [hz1]; omega) (by rw [hz2]; omega) (by omega)]
  rw [Int.toNat_natCast, hz1, made4 k hk]
theorem flat_set4 {x y : Wm} {j : Nat} {u : Value} (hj : j < 4) (hy : (wmV x).set j u = wmV y) : ∀ {outs : List Wm} {i : Nat}, outs[i]? = some x → (outs.flatMap wmV).set (i * 4 + j) u = (outs.set i y).flatMap wmV
  | [], i, h => by simp at h
  | a :: l, 0, h => by
    simp at h; subst h
    rw [List.set_cons_zero, List.flatMap_cons, List.flatMap_cons, Nat.zero_mul, Nat.zero_add, List.set_append_left _ _ (by rw [wmV_len]; omega), hy]
  | a :: l, i + 1, h => by
    simp at h
    rw [List.set_cons_succ, List.flatMap_cons, List.flatMap_cons, List.set_append_right _ _ (by rw [wmV_len]; omega), wmV_len, show (i + 1) * 4 + j - 4 = i * 4 + j by omega, flat_set4 hj hy h]
theorem Blk.set4 {w : World} {ob i j : Nat} {outs : List Wm} {x y : Wm} {u : Value} (h : Blk w ob 70 (outs.flatMap wmV).toArray) (hx : outs[i]? = some x) (hj : j < 4) (hy : (wmV x).set j u = wmV y) : Blk (w.setCell ⟨ob, i * 4 + j, none⟩ u) ob 70 ((outs.set i y).flatMap wmV).toArray := by
  have := heap_setCell_same w ob (i * 4 + j) _ 70 u h
  rw [List.setIfInBounds_toArray, flat_set4 hj hy hx] at this
  exact this
theorem flat_get4 {x : Wm} {j : Nat} (hj : j < 4) : ∀ {outs : List Wm} {i : Nat}, outs[i]? = some x → (outs.flatMap wmV)[i * 4 + j]? = (wmV x)[j]?
  | [], i, h => by simp at h
  | a :: l, 0, h => by
    simp at h; subst h
    rw [List.flatMap_cons, Nat.zero_mul, Nat.zero_add, List.getElem?_append_left (by rw [wmV_len]; omega)]
  | a :: l, i + 1, h => by
    simp at h
    rw [List.flatMap_cons, List.getElem?_append_right (by rw [wmV_len]; omega), wmV_len, show (i + 1) * 4 + j - 4 = i * 4 + j by omega, flat_get4 hj h]
theorem Blk.at4 {w : World} {ob i j : Nat} {outs : List Wm} {x : Wm} {u : Value} (h : Blk w ob 70 (outs.flatMap wmV).toArray) (hx : outs[i]? = some x) (hj : j < 4) (hu : (wmV x)[j]? = some u) : w.cell? ⟨ob, i * 4 + j, none⟩ = some u := by
  rw [h.cell, List.getElem?_toArray, flat_get4 hj hx, hu]
/-- The start: the way to where one is. -/
def outs0 (n s : Nat) : List Wm := (List.replicate n wm0).set s { wm0 with f := true }
theorem outs0_len (n s : Nat) : (outs0 n s).length = n := by simp [outs0]
theorem outs0_wy (n s : Nat) : (outs0 n s).map wyO = (List.replicate n none).set s (some (0, [])) := by
  unfold outs0
  rw [List.map_set, List.map_replicate]
  rfl
theorem outs0_kn (n s : Nat) : (outs0 n s).map (·.kn) = List.replicate n false := by
  unfold outs0
  rw [List.map_set, List.map_replicate]
  exact List.set_replicate_self
theorem outs0_wt (n s : Nat) (W : World) : ∀ x ∈ outs0 n s, Wt W x := fun x hx => by
  rcases List.mem_or_eq_of_mem_set hx with h | h
  · rw [List.eq_of_mem_replicate h]; exact Wt.nil W
  · rw [h]; exact Wt.nil W

/-- The end of the search. -/
theorem ways_end {vs : List Int} {ls : List Ln} {lim : Nd} {n s r i0 : Nat} {fr : Int} {outs : List Wm} (hv : Vg vs ls) (hvl : vs.length = n) (hs : vs[s]? = some fr) (hsn : s < n) (hinv : Gr.Inv (lksN vs lim ls) n s (outs.map wyO) (outs.map (·.kn)) r i0 (lksN vs lim ls).length)
    (ho : ∀ (o : Nat) (x : Wm), outs[o]? = some x → x.kn = false → x.f = false) : ∀ s' : Nat, vs[s']? = some fr → ∀ (v : Nat) (x : Wm), outs[v]? = some x → Gr.Best (lksN vs lim ls) s' v (wyO x) ∧ ∀ y, wyO x = some y → y.2.length + 1 ≤ n := by
  intro s' hs' v x hx
  have he : s' = s := by
    rcases Nat.lt_trichotomy s' s with h | h | h
    · have := hv.inc s' s fr fr h hs' hs; omega
    · exact h
    · have := hv.inc s s' fr fr h hs hs'; omega
  subst he
  refine Gr.inv_done hinv (fun k u t d b hk => ?_) hsn (fun o y hk hy => ?_) v (wyO x) (by rw [List.getElem?_map, hx]; rfl)
  · obtain ⟨_, _, _, _, _, _, _, _, h⟩ := hv.lk hk
    rw [← hvl]; exact h
  · rw [List.getElem?_map] at hk hy
    cases e : outs[o]? with
    | none => rw [e] at hk; cases hk
    | some z =>
      rw [e] at hk hy
      have h1 := ho o z e (by simpa using hk)
      simp [wyO, h1] at hy
theorem ways_full {outs : List Wm} {n : Nat} {r : Nat} {s i0 j : Nat} {lks : List Gr.Lk} (hinv : Gr.Inv lks n s (outs.map wyO) (outs.map (·.kn)) r i0 j) (hr : r = n) : ∀ (o : Nat) (x : Wm), outs[o]? = some x → x.kn = false → x.f = false := fun o x hx hk => by
  have h1 := hinv.count
  have h2 := hinv.lenk
  exact absurd (show (outs.map (·.kn))[o]? = some false by rw [List.getElem?_map, hx, ← hk]; rfl) (count_all (by omega) o)
theorem ways_none {outs : List Wm} {n : Nat} (h : (prs outs n).length = 0) (hn : outs.length = n) : ∀ (o : Nat) (x : Wm), outs[o]? = some x → x.kn = false → x.f = false := fun o x hx hk => by
  cases hf : x.f with
  | false => rfl
  | true =>
    have h1 : (o, x) ∈ prs outs n := mem_prs.2 ⟨by rw [← hn]; exact (List.getElem?_eq_some_iff.1 hx).1, hx, hf, hk⟩
    rw [List.eq_nil_of_length_eq_zero h] at h1
    cases h1

/-- The least open one is taken. -/
theorem pick_inv {vs : List Int} {ls : List Ln} {lim : Nd} {n s r i0 i : Nat} {outs : List Wm} {y : Wm} {w : Gr.Wy} (hv : Vg vs ls) (hvl : vs.length = n) (hsn : s < n) (hinv : Gr.Inv (lksN vs lim ls) n s (outs.map wyO) (outs.map (·.kn)) r i0 (lksN vs lim ls).length) (hol : outs.length = n)
    (hy : outs[i]? = some y) (hyf : y.f = true) (hyk : y.kn = false) (hyw : y.w = w) (hmin : ∀ z ∈ (prs outs n).map (·.2), Gr.Le w z.w) : Gr.Inv (lksN vs lim ls) n s ((outs.set i { y with kn := true }).map wyO) ((outs.set i { y with kn := true }).map (·.kn)) (r + 1) i 0 := by
  rw [set_map_kn true hy, List.map_set]
  refine Gr.inv_pick (w := w) hinv (fun k u t d b hk => ?_) hsn (by rw [List.getElem?_map, hy, ← hyk]; rfl) (by rw [List.getElem?_map, hy]; simp [wyO, hyf, hyw]) (fun o x ho hx => ?_)
  · obtain ⟨_, _, _, _, _, _, _, _, h⟩ := hv.lk hk
    rw [← hvl]; exact h
  · rw [List.getElem?_map] at ho hx
    cases e : outs[o]? with
    | none => rw [e] at ho; cases ho
    | some z =>
      rw [e] at ho hx
      simp only [Option.map_some, Option.some.injEq] at ho hx
      have hzf : z.f = true := by
        cases h : z.f with
        | true => rfl
        | false => simp [wyO, h] at hx
      have hzw : z.w = x := by simpa [wyO, hzf] using hx
      rw [← hzw]
      exact hmin z (List.mem_map.2 ⟨(o, z), mem_prs.2 ⟨by rw [← hol]; exact (List.getElem?_eq_some_iff.1 e).1, e, hzf, ho⟩, rfl⟩)

theorem Blk.setW {w : World} {ob t : Nat} {os : List Wm} {x nx : Wm} (h : Blk w ob 70 (os.flatMap wmV).toArray) (hx : os[t]? = some x) : Blk (w.setCells ob (t * 4) (wmV nx)) ob 70 ((os.set t nx).flatMap wmV).toArray := by
  have ht := (List.getElem?_eq_some_iff.1 hx).1
  have h1 := Blk.set4 (j := 0) (y := ⟨nx.A, nx.n, nx.c, x.w, x.f, x.kn⟩) (u := .slice nx.A nx.n nx.c) h hx (by decide) rfl
  have h2 := Blk.set4 (j := 1) (y := ⟨nx.A, nx.n, nx.c, nx.w, x.f, x.kn⟩) (u := .int .i64 (nx.w.1 : Int)) h1 (List.getElem?_set_self ht) (by decide) rfl
  rw [List.set_set] at h2
  have h3 := Blk.set4 (j := 2) (y := ⟨nx.A, nx.n, nx.c, nx.w, nx.f, x.kn⟩) (u := .bool nx.f) h2 (List.getElem?_set_self ht) (by decide) rfl
  rw [List.set_set] at h3
  have h4 := Blk.set4 (j := 3) (y := nx) (u := .bool nx.kn) h3 (List.getElem?_set_self ht) (by decide) rfl
  rw [List.set_set] at h4
  exact h4
theorem kept_setW (w : World) (ob o : Nat) (nx : Wm) : KeptIn (fun k => k ≠ ob) w (w.setCells ob o (wmV nx)) :=
  ((((KeptIn.refl _ _).setAt (p := ⟨ob, o, none⟩) (fun h => h rfl) _).setAt (p := ⟨ob, o + 1, none⟩) (fun h => h rfl) _).setAt (p := ⟨ob, o + 1 + 1, none⟩) (fun h => h rfl) _).setAt (p := ⟨ob, o + 1 + 1 + 1, none⟩) (fun h => h rfl) _
theorem below_setW {B : Nat} {a w : World} {ob : Nat} (h : Below B a w) (hb : B ≤ ob) (o : Nat) (nx : Wm) : Below B a (w.setCells ob o (wmV nx)) :=
  ((((h.setCell (p := ⟨ob, o, none⟩) hb _).setCell (p := ⟨ob, o + 1, none⟩) hb _).setCell (p := ⟨ob, o + 1 + 1, none⟩) hb _).setCell (p := ⟨ob, o + 1 + 1 + 1, none⟩) hb _)
theorem lstI_two {W : World} {s t : Sl} {xs ys : List Int} (e : TypeId) (h1 : Rd W 1 s.a s.n (xs.map intV)) (h2 : Rd W 1 t.a t.n (ys.map intV)) : LstI (W.alloc (.cells #[.slice s.a s.n s.c, .slice t.a t.n t.c] e)) (some ⟨W.heap.size, 0, none⟩) 2 [xs, ys] := by
  have hb : Below W.heap.size W (W.alloc (.cells #[.slice s.a s.n s.c, .slice t.a t.n t.c] e)) := (Below.refl _ _).alloc (Nat.le_refl _) _
  have h1 := h1.below hb
  have h2 := h2.below hb
  refine ⟨[s, t], (Blk.new W e #[.slice s.a s.n s.c, .slice t.a t.n t.c]).rd (xs := [slV s, slV t]) (by simp), rfl, fun k v l hv hl => ?_⟩
  match k, hv, hl with
  | 0, hv, hl => cases hv; cases hl; exact h1
  | 1, hv, hl => cases hv; cases hl; exact h2
theorem built70 (A : Option Addr) (n c : Nat) (k : Int) : Try.prog.built 70 [(0, .slice A n c), (1, .int .i64 k), (2, .bool true)] = some (wyC A n c k true false).toArray := by kernel_rfl
theorem castL_snoc (l : List Nat) (j : Nat) : [castL l, [(j : Int)]].flatten = castL (l ++ [j]) := by simp [castL]
section
variable {lks : List Gr.Lk} {n s r i j t d : Nat} {os : List Wm} {x z : Wm} {w : Gr.Wy}
theorem at_wy (hz : os[i]? = some z) (hzw : wyO z = some w) : (os.map wyO)[i]? = some (some w) := by rw [List.getElem?_map, hz, ← hzw]; rfl
theorem at_kn {b : Bool} (hz : os[i]? = some z) (hk : z.kn = b) : (os.map (·.kn))[i]? = some b := by rw [List.getElem?_map, hz, ← hk]; rfl
theorem wyO_f (hf : x.f = true) : wyO x = some x.w := by simp [wyO, hf]
theorem invK (h : Gr.Inv lks n s (os.map wyO) (os.map (·.kn)) r i j) (hj : lks[j]? = some (i, t, d, true)) (hz : os[i]? = some z) (hzw : wyO z = some w) (hx : os[t]? = some x) (hxk : x.kn = true) : Gr.Inv lks n s (os.map wyO) (os.map (·.kn)) r i (j + 1) :=
  Gr.inv_known h hj (at_wy hz hzw) (at_kn hx hxk)
theorem invL (h : Gr.Inv lks n s (os.map wyO) (os.map (·.kn)) r i j) (hj : lks[j]? = some (i, t, d, true)) (hz : os[i]? = some z) (hzw : wyO z = some w) (hx : os[t]? = some x) (hxf : x.f = true) (hle : ¬ Gr.cmpW (w.1 + d, w.2 ++ [j]) x.w < 0) : Gr.Inv lks n s (os.map wyO) (os.map (·.kn)) r i (j + 1) :=
  Gr.inv_keep h hj (at_wy hz hzw) (at_wy hx (wyO_f hxf)) (by unfold Gr.Le; have := Gr.cmpW_neg (w.1 + d, w.2 ++ [j]) x.w; omega)
theorem invS (h : Gr.Inv lks n s (os.map wyO) (os.map (·.kn)) r i j) (hj : lks[j]? = some (i, t, d, true)) (hz : os[i]? = some z) (hzk : z.kn = true) (hzw : wyO z = some w) (hx : os[t]? = some x) (hxk : x.kn = false) (hlt : x.f = true → Gr.cmpW (w.1 + d, w.2 ++ [j]) x.w < 0) {nx : Wm} (hn : wyO nx = some (w.1 + d, w.2 ++ [j])) (hnk : nx.kn = false) : Gr.Inv lks n s ((os.set t nx).map wyO) ((os.set t nx).map (·.kn)) r i (j + 1) := by
  have h1 := Gr.inv_set h hj (at_wy hz hzw) (at_kn hz hzk) (at_kn hx hxk) (fun y hy => by
    rw [List.getElem?_map, hx] at hy
    simp only [Option.map_some, Option.some.injEq] at hy
    have hf : x.f = true := by
      cases e : x.f with
      | true => rfl
      | false => simp [wyO, e] at hy
    have : x.w = y := by simpa [wyO, hf] using hy
    rw [← this]; exact hlt hf)
  have h2 : (os.set t nx).map (·.kn) = os.map (·.kn) := by
    apply List.ext_getElem?
    intro k
    rw [List.getElem?_map, List.getElem?_map]
    by_cases e : t = k
    · subst e
      rw [List.getElem?_set_self (List.getElem?_eq_some_iff.1 hx).1, hx]
      simp [hnk, hxk]
    · rw [List.getElem?_set_ne e]
  rw [h2, List.map_set, hn]
  exact h1
theorem inv_bd {vs : List Int} {ls : List Ln} {lim : Nd} (hv : Vg vs ls) (h : Gr.Inv (lksN vs lim ls) n s (os.map wyO) (os.map (·.kn)) r i j) (hz : os[i]? = some z) (hzw : wyO z = some w) : w.1 ≤ r * 1000000 ∧ w.2.length ≤ r := by
  have h1 := h.bound i w (at_wy hz hzw)
  have h2 := (h.walk i w (at_wy hz hzw)).cost (K := 1000000) (fun k u t d b hk => by obtain ⟨_, _, _, _, _, h, _⟩ := hv.lk hk; exact h)
  have h3 : w.2.length * 1000000 ≤ r * 1000000 := Nat.mul_le_mul_right _ h1
  exact ⟨Nat.le_trans h2 h3, h1⟩
end

set_option maxRecDepth 100000 in
set_option maxHeartbeats 4000000 in
theorem ways_any (A : Option Addr) (n c : Nat) (B : Option Addr) (m d : Nat) (vs : List Int) (ls : List Ln) (fr : Int) (lim : Nd) (w : World) (hr : Rd w 1 A n (vs.map intV)) (hl : Rd w 8 B m (ls.flatMap lnV)) (hv : Vg vs ls) :
    Calls Try.prog 28 #[.agg (grV A n c B m d).toArray, .int .i64 fr, .agg (ndV lim).toArray] w fun e w' => (∃ (g : Nat) (outs : List Wm), e = .returned (.slice (some ⟨g, 0, none⟩) n n) ∧ w.heap.size ≤ g ∧ outs.length = n ∧ Blk w' g 70 (outs.flatMap wmV).toArray ∧ (∀ x ∈ outs, Wt w' x) ∧ (∀ s : Nat, vs[s]? = some fr → ∀ (v : Nat) (x : Wm), outs[v]? = some x → Gr.Best (lksN vs lim ls) s v (wyO x) ∧ ∀ y, wyO x = some y → y.2.length + 1 ≤ n) ∧ (fr ∉ vs → ∀ x ∈ outs, x.f = false)) ∧ Below w.heap.size w w' := by
  obtain ⟨i70, hi70, hz70, hs70, hy70⟩ := info_parts info70
  obtain ⟨d70, hd70, hrow70⟩ := und70
  obtain ⟨i53, hi53, hz53, hs53, hy53⟩ := info_parts info53
  obtain ⟨d53, hd53, hrow53⟩ := und53
  obtain ⟨d33, hd33, hrow33⟩ := und33
  obtain ⟨d28, hd28, hrow28⟩ := und28
  obtain ⟨i3, hi3, hz3, hs3, hy3⟩ := info_parts info3
  have hvl := hr.len1
  have hnl := hr.le
  have hml := hl.le
  have hll := hl.lenf lnV_len (by omega)
  have hn16 : n ≤ 16 := by have := hv.n; omega
  have hm64 : m ≤ 64 := by have := hv.m; omega
  have Hr := Lib.hid hr
  have Hl := Lib.hid hl
  have Hv := Lib.hid hv
  have Hvl := Lib.hid hvl
  have Hll := Lib.hid hll
  clear hr hl hv hvl hll
  go_enter Try.func28, Try.ntmps28
  go_upto_region 1 with fail
  obtain ⟨w1, hw1⟩ : ∃ v, v = (w.alloc (.cells (grV A n c B m d).toArray 33)).alloc (.cells (ndV lim).toArray 28) := ⟨_, rfl⟩
  have hB : Below w.heap.size w w1 := by rw [hw1]; exact ((Below.refl _ _).alloc (Nat.le_refl _) _).alloc (by simp) _
  have hC : Blk w1 w.heap.size 33 (grV A n c B m d).toArray := by rw [hw1]; exact (Blk.new _ _ _).alloc _
  have hD : Blk w1 (w.heap.size + 1) 28 (ndV lim).toArray := by
    have := Blk.new (w.alloc (.cells (grV A n c B m d).toArray 33)) 28 (ndV lim).toArray
    rw [World.size_alloc] at this
    rw [hw1]; exact this
  rw [← hw1]
  clear hw1
  have HC := Lib.hid hC
  have HD := Lib.hid hD
  have HB := Lib.hid hB
  have hsz1 := hB.size
  have c0 : w1.cell? ⟨w.heap.size, 0, none⟩ = some (.slice A n c) := by rw [hC.cell]; rfl
  have hmk : ∀ w : World, (Instr.makeSlice 67 (.int .i64 (n : Int)) (.int .i64 (n : Int))).run Try.prog w = _ := fun w => mkWays w n hn16
  clear hC hD hB
  go_upto_region 2 with fail
  obtain ⟨ob, hob⟩ : ∃ v, v = w1.heap.size := ⟨_, rfl⟩
  obtain ⟨w2, hw2⟩ : ∃ v, v = w1.alloc (.cells ((List.replicate n wm0).flatMap wmV).toArray 70) := ⟨_, rfl⟩
  have hb2 : Below w1.heap.size w1 w2 := by rw [hw2]; exact (Below.refl _ _).alloc (Nat.le_refl _) _
  have hO2 : Blk w2 ob 70 ((List.replicate n wm0).flatMap wmV).toArray := by rw [hw2, hob]; exact Blk.new _ _ _
  rw [← hw2, ← hob]
  clear hw2 c0
  have HO2 := Lib.hid hO2
  have Hb2 := Lib.hid hb2
  have Hob := Lib.hid hob
  clear hO2 hb2 hob
  have Hfd := Lib.hid (fun W (h : Below w.heap.size w W) => find_any A n c B m d vs fr W (Hr.out.below h) (by omega) Hv.out.inc)
  have hgg : w2.rangeAt w.heap.size 0 (grV A n c B m d) := Blk.range ((HC.out.below Hb2.out HC.out.lt))
  have Hgg := Lib.hid hgg
  have hbb2 := Lib.hid (HB.out.trans (Hb2.out.mono hsz1))
  clear hgg
  go_upto_region 3 with (refine wpList_load_mid rfl 33 (.tmp 3) rfl w.heap.size 0 rfl (grV A n c B m d) d33 Hgg.out hd33 hrow33 (by rw [grV_len]; kernel_rfl) ?_)
  refine (Hfd.out _ hbb2.out).mono ?_
  rintro e w3 ⟨⟨s, rfl, hs⟩, hb3⟩
  have hO3 := HO2.out.below hb3 HO2.out.lt
  have hB3 := hbb2.out.trans (hb3.mono hbb2.out.size)
  have HO3 := Lib.hid hO3
  have HB3 := Lib.hid hB3
  have Hs := Lib.hid hs
  have Hb3 := Lib.hid (Hb2.out.trans (hb3.mono Hb2.out.size))
  clear hO3 hB3 hs hb3 HO2 Hgg Hfd hbb2 Hb2
  by_cases hf : fr ∈ vs
  rotate_left
  · have Hf := Lib.hid hf
    rw [decide_eq_false hf]
    clear hf
    go_wp2_with fail
    go_ret
    exact ⟨⟨ob, List.replicate n wm0, rfl, by rw [Hob.out]; exact hsz1, by simp, HO3.out, fun x hx => by rw [List.eq_of_mem_replicate hx]; exact Wt.nil _, fun s hs => absurd (List.mem_of_getElem? hs) Hf.out, fun _ x hx => by rw [List.eq_of_mem_replicate hx]; rfl⟩, HB3.out⟩
  rw [decide_eq_true hf]
  replace Hs := Lib.hid (Hs.out hf)
  have hsn : s < n := by have := (List.getElem?_eq_some_iff.1 Hs.out).1; rw [Hvl.out] at this; exact this
  have hsi : decide ((s : Int) < (n : Int)) = true := decide_eq_true (by omega)
  have hx0 : (List.replicate n wm0)[s]? = some wm0 := by rw [List.getElem?_replicate, if_pos hsn]
  have q2 : w3.cell? ⟨ob, s * 4 + 2, none⟩ = some (.bool false) := Blk.at4 HO3.out hx0 (by decide) rfl
  have q3 := HO3.out.frozen (s * 4 + 2)
  have hO4 : Blk (w3.setCell ⟨ob, s * 4 + 2, none⟩ (.bool true)) ob 70 ((outs0 n s).flatMap wmV).toArray := Blk.set4 HO3.out hx0 (by decide) rfl
  have HO4 := Lib.hid hO4
  clear hf hx0 hO4
  go_wp2_with fail
  go_loopw [40] (fun v40 wr => ∃ (r i0 : Nat) (outs : List Wm), v40 = .int .i64 (r : Int) ∧ r ≤ n ∧ outs.length = n ∧ Gr.Inv (lksN vs lim ls) n s (outs.map wyO) (outs.map (·.kn)) r i0 (lksN vs lim ls).length ∧ Blk wr ob 70 (outs.flatMap wmV).toArray ∧ (∀ x ∈ outs, Wt wr x) ∧ Below w1.heap.size w1 wr) (fun v40 _ => n - (intOf v40).toNat)
  case atStart =>
    have hob := Hob.out
    exact ⟨0, 0, outs0 n s, rfl, by omega, outs0_len n s, by rw [outs0_wy, outs0_kn]; exact Gr.inv_start _ _ _ hsn, HO4.out, outs0_wt n s _, Hb3.out.setCell (by show w1.heap.size ≤ ob; omega) _⟩
  case round =>
    obtain ⟨r, i0, outs, rfl, hrn, hol, hinv, hO, hwt, hBr⟩ := hrel
    have Hinv := Lib.hid hinv
    have HO := Lib.hid hO
    have Hwt := Lib.hid hwt
    have HBr := Lib.hid hBr
    have Hol := Lib.hid hol
    have hszr := hBr.size
    clear hinv hO hwt hBr hol HO3 HO4 Hb3 HB3 q2 q3 hsi
    by_cases hlt : r < n
    rotate_left
    · have hr : r = n := by omega
      have fin := ways_end Hv.out Hvl.out Hs.out hsn Hinv.out (ways_full Hinv.out hr)
      have Fin := Lib.hid fin
      have HBx := Lib.hid (HB.out.trans (HBr.out.mono hsz1))
      have hh : fr ∉ vs → ∀ x ∈ outs, x.f = false := fun h => absurd (List.mem_of_getElem? Hs.out) h
      have Hh := Lib.hid hh
      have d0 : decide ((r : Int) < (n : Int)) = false := decide_eq_false (by omega)
      have d1 : decide (r < n) = false := decide_eq_false hlt
      clear fin hh hr hlt
      go_wp2_with fail
      go_ret
      exact ⟨⟨ob, outs, rfl, by rw [Hob.out]; exact hsz1, Hol.out, HO.out, Hwt.out, Fin.out, Hh.out⟩, HBx.out⟩
    have d0 : decide ((r : Int) < (n : Int)) = true := decide_eq_true (by omega)
    obtain ⟨wo, hwo⟩ : ∃ wo, wo = wr := ⟨_, rfl⟩
    subst hwo
    go_wp2_with fail
    clear d0
    go_loopw [10, 11, 44] (fun v10 v11 v44 wr => ∃ (k : Nat), v44 = .int .i64 (k : Int) ∧ k ≤ n ∧ AppZ wr wo.heap.size 70 4 v10 (prs outs k).length (((prs outs k).map (·.2)).flatMap wmV) ∧ Own wr 70 v10 ∧ AppZ wr wo.heap.size 3 1 v11 (prs outs k).length ((prs outs k).map fun p => intV (p.1 : Nat)) ∧ Own wr 3 v11 ∧ Below wo.heap.size wo wr) (fun _ _ v44 _ => n - (intOf v44).toNat)
    case atStart => exact ⟨0, rfl, by omega, .inr (World.ownsRow_nil _ _ _ _), (show Own wo 70 (.slice none 0 0) from fun g e => absurd e (by simp [Value.ownBlock])), .inr (World.ownsRow_nil _ _ _ _), (show Own wo 3 (.slice none 0 0) from fun g e => absurd e (by simp [Value.ownBlock])), Below.refl _ _⟩
    case round =>
      obtain ⟨k, rfl, hkn, happ, hown, hat, hoa, hB2⟩ := hrel
      have Happ := Lib.hid happ
      have Hown := Lib.hid hown
      have Hat := Lib.hid hat
      have Hoa := Lib.hid hoa
      have HB2 := Lib.hid hB2
      have hsz2 := hB2.size
      have hpl := prs_len outs k
      clear happ hown hat hoa hB2
      by_cases hk : k < n
      · have hO' := HO.out.below HB2.out HO.out.lt
        obtain ⟨x, hx⟩ : ∃ x, outs[k]? = some x := ⟨_, List.getElem?_eq_getElem (by rw [Hol.out]; exact hk)⟩
        have hrg : wr.rangeAt ob (k * 4) (wmV x) := fun j v hv => Blk.at4 hO' hx (by have := (List.getElem?_eq_some_iff.1 hv).1; exact this) hv
        have Hx := Lib.hid hx
        have Hrg := Lib.hid hrg
        have d0 : decide ((k : Int) < (n : Int)) = true := decide_eq_true (by omega)
        have hn_ : Blk (wr.alloc (.cells (wyC none 0 0 0 false false).toArray 70)) wr.heap.size 70 (wyC none 0 0 0 false false).toArray := Blk.new _ _ _
        have Hn_ := Lib.hid hn_
        clear hO' hx hrg hn_
        go_upto_region 13 with (first | (refine wpList_load_mid rfl 70 (.tmp 47) rfl ob (k * 4) rfl (wmV x) d70 Hrg.out hd70 hrow70 (by rw [wmV_len]; kernel_rfl) ?_) | (refine wpList_alloc0 rfl 70 rfl (wyC none 0 0 0 false false).toArray _ i70 hi70 hz70 rfl ?_; simp only [Act.put, List.setIfInBounds_toArray, List.set_cons_succ, List.set_cons_zero]) | (refine wpList_store_row rfl 70 (.tmp 13) (.tmp 48) rfl wr.heap.size (wmV x).toArray rfl rfl 70 (wyC none 0 0 0 false false).toArray Hn_.out (size70 _ rfl) rfl (wy_one _ _ _ _ _ _) ?_))
        obtain ⟨w3, hw3⟩ : ∃ v, v = (wr.alloc (.cells (wyC none 0 0 0 false false).toArray 70)).setRow wr.heap.size (wmV x).toArray := ⟨_, rfl⟩
        have hb3 : Below wr.heap.size wr w3 := by rw [hw3]; exact Below.setRow ((Below.refl _ _).alloc (Nat.le_refl _) _) (Nat.le_refl _) _
        have hL3 : Blk w3 wr.heap.size 70 (wmV x).toArray := by rw [hw3]; exact setRow_heap _ _ _ _ _ _ Hn_.out
        rw [← hw3]
        clear hw3 Hn_ Hrg d0
        obtain ⟨xb, hxb⟩ : ∃ v, v = wr.heap.size := ⟨_, rfl⟩
        rw [← hxb] at hL3 ⊢
        clear hxb
        have c2 : w3.cell? ⟨xb, 2, none⟩ = some (.bool x.f) := by rw [hL3.cell]; rfl
        have c3 : w3.cell? ⟨xb, 3, none⟩ = some (.bool x.kn) := by rw [hL3.cell]; rfl
        have HL3 := Lib.hid hL3
        replace Happ := Lib.hid (Happ.out.below hb3 (Nat.le_refl _))
        replace Hown := Lib.hid (Hown.out.below hb3)
        replace Hat := Lib.hid (Hat.out.below hb3 (Nat.le_refl _))
        replace Hoa := Lib.hid (Hoa.out.below hb3)
        replace HB2 := Lib.hid (HB2.out.trans (hb3.mono hsz2))
        have hsz3 := HB2.out.size
        clear hL3 hb3
        by_cases hop : (x.f && !x.kn) = true
        · have hp := prs_yes Hx.out hop
          rw [Bool.and_eq_true, Bool.not_eq_true'] at hop
          rw [hop.1] at c2
          rw [hop.2] at c3
          have Hp := Lib.hid hp
          clear hop hp
          have hone : ∀ v ∈ wmV x, v.oneCell' = true := fun v hv => List.all_eq_true.1 (show (wmV x).all (·.oneCell') = true by simpa [wmV] using wy_one x.A x.n x.c (x.w.1 : Int) x.f x.kn) v hv
          have Hone := Lib.hid hone
          have hL3r : w3.rangeAt xb 0 (wmV x) := Blk.range HL3.out
          have HL3r := Lib.hid hL3r
          clear hL3r hone
          have Hrd4 := Lib.hid (Blk.rdN (w := w3) (e := 70) (wmV x) (wmV_len x))
          go_wp2_with (first | (refine wpList_load_mid rfl 70 (.tmp 13) rfl xb 0 rfl (wmV x) d70 HL3r.out hd70 hrow70 (by rw [wmV_len]; kernel_rfl) ?_) | (refine wpList_build1 rfl 67 70 (.tmp 57) rfl (wmV x).toArray i70 _ 4 Try.underlying67 hi70 hz70 hs70 (by omega) (by omega) rfl rfl ?_) | (at_builtin; first | (refine wpList_appz rfl (.tmp 56) (.tmp 58) 67 rfl 70 i70 _ 4 40 Try.underlying67 hi70 hz70 hs70 hy70 rfl (by omega) wo.heap.size (by simp; omega) u10 (prs outs k).length _ rfl (Happ.out.below ((Below.refl _ _).alloc (Nat.le_refl _) _) (Nat.le_refl _)) (some ⟨w3.heap.size, 0, none⟩) 1 1 (wmV x) rfl Hrd4.out Hone.out (by unfold maxLen; omega) (by omega) ?_; intro v9 w9 happ9 hg9; have Happ9 := Lib.hid happ9; have Hg9 := Lib.hid hg9; have hsz9 := hg9.size; clear happ9 hg9) | (refine wpList_appz rfl (.tmp 60) (.tmp 62) 30 rfl 3 i3 (.int .i64 0) 1 8 Try.underlying30 hi3 hz3 hs3 hy3 rfl (by omega) wo.heap.size (by simp at hsz9 ⊢; omega) u11 (prs outs k).length _ rfl (AppZ.alloc (AppZ.grown (AppZ.alloc Hat.out _) Hg9.out (fun g e => (Hown.out.below ((Below.refl _ _).alloc (Nat.le_refl _) _)) g e) (by decide)) _) (some ⟨w9.heap.size, 0, none⟩) 1 1 [intV (k : Int)] rfl (lit_rdE _ _ _) (by simp [intV, Value.oneCell']) (by unfold maxLen; omega) (by omega) ?_; intro v10 w10 happ10 hg10; have Happ10 := Lib.hid happ10; have Hg10 := Lib.hid hg10; clear happ10 hg10)))
          have ho3 : Own (w3.alloc (.cells (wmV x).toArray 70)) 70 u10 := Hown.out.below ((Below.refl _ _).alloc (Nat.le_refl _) _)
          have hlt10 : ∀ g, u10.ownBlock = some g → wo.heap.size ≤ g := fun g e => (Happ.out.lt g e).1
          have hlt11 : ∀ g, u11.ownBlock = some g → wo.heap.size ≤ g := fun g e => (Hat.out.lt g e).1
          have hb9 : Below wo.heap.size wo w9 := (HB2.out.alloc hsz3 _).grown Hg9.out (by simp; omega) hlt10
          have hb10 : Below wo.heap.size wo w10 := (hb9.alloc hb9.size _).grown Hg10.out (by have := hb9.size; simp; omega) hlt11
          have ho9 : ∀ g, u11.ownBlock = some g → ∃ cur, Blk (w9.alloc (.cells #[.int .i64 (k : Int)] 3)) g 3 cur := fun g e => by
            obtain ⟨cur, hc⟩ := (Hoa.out.below ((Below.refl _ _).alloc (Nat.le_refl _) (.cells (wmV x).toArray 70))) g e
            exact ⟨cur, (hc.kept Hg9.out (fun e2 => by
              obtain ⟨cur2, hc2⟩ := ho3 g e2.symm
              exact (hc2.ne hc (by decide)) rfl)).alloc _⟩
          have happ10 := (Happ9.out.alloc (.cells #[.int .i64 (k : Int)] 3)).grown Hg10.out ho9 (by decide)
          have hown10 : Own w10 70 v9 := Own.of happ10 (by omega)
          have hoa10 : Own w10 3 v10 := Own.of Happ10.out (by omega)
          exact ⟨⟨k + 1, by go_num, by omega, by rw [Hp.out]; simpa using happ10, hown10, by rw [Hp.out]; simpa using Happ10.out, hoa10, hb10⟩, by simp [intOf]; omega⟩
        · have hop' : (x.f && !x.kn) = false := by simpa using hop
          have hp := prs_no Hx.out hop'
          have Hp := Lib.hid hp
          have hex : x.f = false ∨ (x.f = true ∧ x.kn = true) := by
            cases h1 : x.f <;> cases h2 : x.kn <;> simp [h1, h2] at hop' ⊢
          clear hop hop' hp
          have fin : AppZ w3 wo.heap.size 70 4 u10 (prs outs (k + 1)).length (((prs outs (k + 1)).map (·.2)).flatMap wmV) ∧ Own w3 70 u10 ∧ AppZ w3 wo.heap.size 3 1 u11 (prs outs (k + 1)).length ((prs outs (k + 1)).map fun p => intV (p.1 : Nat)) ∧ Own w3 3 u11 ∧ Below wo.heap.size wo w3 := by
            rw [Hp.out]; exact ⟨Happ.out, Hown.out, Hat.out, Hoa.out, HB2.out⟩
          have Fin := Lib.hid fin
          clear fin
          rcases hex with h1 | ⟨h1, h2⟩
          · rw [h1] at c2
            clear h1
            go_wp2_with fail
            exact ⟨⟨k + 1, by go_num, by omega, Fin.out⟩, by simp [intOf]; omega⟩
          · rw [h1] at c2
            rw [h2] at c3
            clear h1 h2
            go_wp2_with fail
            exact ⟨⟨k + 1, by go_num, by omega, Fin.out⟩, by simp [intOf]; omega⟩
      · have he : n = k := by omega
        subst he
        have hok : ∀ y ∈ (prs outs n).map (·.2), Wok wr y ∧ y.f = true := fun y hy => by
          obtain ⟨q, hq, rfl⟩ := List.mem_map.1 hy
          obtain ⟨h1, h2, h3, h4⟩ := mem_prs.1 hq
          exact ⟨((Hwt.out _ (List.mem_of_getElem? h2)).below HB2.out).ok, h3⟩
        obtain ⟨Ao, co, rfl, hco, hrdo⟩ := Happ.out.rd
        obtain ⟨Aa, ca, rfl, hca, hrda⟩ := Hat.out.rd
        have hob : w1.heap.size ≤ ob := Nat.le_of_eq Hob.out.symm
        by_cases hK0 : (prs outs n).length = 0
        · have fin := ways_end Hv.out Hvl.out Hs.out hsn Hinv.out (ways_none hK0 Hol.out)
          have Fin := Lib.hid fin
          have HBx := Lib.hid ((HB.out.trans (HBr.out.mono hsz1)).trans (HB2.out.mono (by omega)))
          have HOx := Lib.hid (HO.out.below HB2.out HO.out.lt)
          have Hwx := Lib.hid (fun x hx => (Hwt.out x hx).below HB2.out)
          have hh : fr ∉ vs → ∀ x ∈ outs, x.f = false := fun h => absurd (List.mem_of_getElem? Hs.out) h
          have Hh := Lib.hid hh
          clear fin hh hok hrdo hrda
          rw [hK0]
          clear hK0
          go_wp2_with fail
          go_ret
          exact ⟨⟨ob, outs, rfl, by omega, Hol.out, HOx.out, Hwx.out, Fin.out, Hh.out⟩, HBx.out⟩
        have Hm := Lib.hid (MinFunc_any Ao _ co _ wr hrdo (by omega) (by omega) hok)
        have Hok := Lib.hid hok
        have Hrdo := Lib.hid hrdo
        have Hrda := Lib.hid hrda
        obtain ⟨K, hK⟩ : ∃ K, K = (prs outs n).length := ⟨_, rfl⟩
        have hK1 : 0 < K := by omega
        have hK2 : K ≤ n := by omega
        rw [← hK] at Hm Hrdo Hrda ⊢
        have HK := Lib.hid hK
        have e1 : ((K : Int) == 0) = false := by rw [beq_eq_false_iff_ne]; omega
        have e2 : (K == 0) = false := by rw [beq_eq_false_iff_ne]; omega
        clear hok hrdo hrda hK hK0 Happ Hown Hat Hoa hpl
        go_upto_region 18 with fail
        refine Hm.out.mono ?_
        rintro e w4 ⟨⟨xm, hxm, rfl, hmin⟩, hb4⟩
        have Hmin := Lib.hid hmin
        have Hxm := Lib.hid hxm
        have HB4 := Lib.hid (HB2.out.trans (hb4.mono hsz2))
        replace Hrdo := Lib.hid (Hrdo.out.below hb4)
        replace Hrda := Lib.hid (Hrda.out.below hb4)
        replace Hok := Lib.hid (fun y hy => (show Wok w4 y ∧ y.f = true from ⟨(Hok.out y hy).1.below hb4, (Hok.out y hy).2⟩))
        have hn_ : Blk (w4.alloc (.cells (wyC none 0 0 0 false false).toArray 70)) w4.heap.size 70 (wyC none 0 0 0 false false).toArray := Blk.new _ _ _
        have Hn_ := Lib.hid hn_
        clear hmin hxm hb4 Hm hn_
        go_upto_region 18 with (first | (refine wpList_alloc0 rfl 70 rfl (wyC none 0 0 0 false false).toArray _ i70 hi70 hz70 rfl ?_; simp only [Act.put, List.setIfInBounds_toArray, List.set_cons_succ, List.set_cons_zero]) | (refine wpList_store_row rfl 70 (.tmp 14) (.tmp 69) rfl w4.heap.size (wmV xm).toArray rfl rfl 70 (wyC none 0 0 0 false false).toArray Hn_.out (size70 _ rfl) rfl (wy_one _ _ _ _ _ _) ?_))
        obtain ⟨w5, hw5⟩ : ∃ v, v = (w4.alloc (.cells (wyC none 0 0 0 false false).toArray 70)).setRow w4.heap.size (wmV xm).toArray := ⟨_, rfl⟩
        have hb5 : Below w4.heap.size w4 w5 := by rw [hw5]; exact Below.setRow ((Below.refl _ _).alloc (Nat.le_refl _) _) (Nat.le_refl _) _
        have hX5 : Blk w5 w4.heap.size 70 (wmV xm).toArray := by rw [hw5]; exact setRow_heap _ _ _ _ _ _ Hn_.out
        rw [← hw5]
        clear hw5 Hn_
        obtain ⟨gx, hgx⟩ : ∃ v, v = w4.heap.size := ⟨_, rfl⟩
        rw [← hgx] at hX5 ⊢
        have hgx1 : wo.heap.size ≤ gx := by rw [hgx]; exact HB4.out.size
        have HX5 := Lib.hid hX5
        have HB5 := Lib.hid (HB4.out.trans (hb5.mono HB4.out.size))
        replace Hrdo := Lib.hid (Hrdo.out.below hb5)
        replace Hrda := Lib.hid (Hrda.out.below hb5)
        replace Hok := Lib.hid (fun y hy => (show Wok w5 y ∧ y.f = true from ⟨(Hok.out y hy).1.below hb5, (Hok.out y hy).2⟩))
        have Hi := Lib.hid (IndexFunc_any Ao K co _ gx xm w5 Hrdo.out (by omega) Hok.out HX5.out (Hok.out _ Hxm.out).1 (Hok.out _ Hxm.out).2 Hxm.out)
        clear hb5 hX5 hgx HB4
        go_upto_region 19 with fail
        refine Hi.out.mono ?_
        rintro e w6 ⟨⟨k, y, rfl, hk, hyw⟩, hb6⟩
        obtain ⟨⟨i, y'⟩, hq, hq2⟩ : ∃ q, (prs outs n)[k]? = some q ∧ q.2 = y := by
          rw [List.getElem?_map] at hk
          cases e : (prs outs n)[k]? with
          | none => rw [e] at hk; cases hk
          | some q => rw [e] at hk; exact ⟨q, rfl, by simpa using hk⟩
        subst hq2
        obtain ⟨hin, hoi, hyf, hyk⟩ := mem_prs.1 (List.mem_of_getElem? hq)
        have hkK : k < K := by rw [HK.out]; exact (List.getElem?_eq_some_iff.1 hq).1
        obtain ⟨ab, ao, q, rfl, hq', hcq⟩ := (Hrda.out.below hb6).at_ hkK
        rw [hq] at hq'
        obtain rfl := Option.some.inj hq'
        have HX6 := Lib.hid (HX5.out.below hb6 HX5.out.lt)
        have HB6 := Lib.hid (HB5.out.trans (hb6.mono HB5.out.size))
        have HO6 := Lib.hid (HO.out.below HB6.out HO.out.lt)
        have Hwt6 := Lib.hid (fun x hx => (Hwt.out x hx).below HB6.out)
        have hxt : Wt w6 xm := by
          obtain ⟨q, hq9, hq8⟩ := List.mem_map.1 Hxm.out
          rw [← hq8]
          exact Hwt6.out _ (List.mem_of_getElem? (mem_prs.1 hq9).2.1)
        have Hxt6 := Lib.hid hxt
        have hxf : xm.f = true := (Hok.out _ Hxm.out).2
        have hoblt : ob < wo.heap.size := HO.out.lt
        have Hinv1 := Lib.hid (pick_inv Hv.out Hvl.out hsn Hinv.out Hol.out hoi hyf hyk hyw Hmin.out)
        have Hoi := Lib.hid hoi
        have Hyw := Lib.hid hyw
        have Hyf := Lib.hid hyf
        have hcq' : w6.cell? ⟨ab, ao + k, none⟩ = some (.int .i64 (i : Int)) := hcq
        have q3 : w6.cell? ⟨ob, i * 4 + 3, none⟩ = some (.bool false) := Blk.at4 HO6.out hoi (by decide) (by rw [← hyk]; rfl)
        have q4 := HO6.out.frozen (i * 4 + 3)
        clear hb6 hxt HX5 HB5 Hrdo Hrda Hok Hi Hmin Hxm hk hyw hq hoi hyf hyk hcq HK Hwt HO Hinv e1 e2 HB2
        go_upto_region 20 with fail
        obtain ⟨w7, hw7⟩ : ∃ v, v = w6.setCell ⟨ob, i * 4 + 3, none⟩ (.bool true) := ⟨_, rfl⟩
        rw [← hw7]
        have hkn7 : KeptIn (fun k => k ≠ ob) w6 w7 := by rw [hw7]; exact (KeptIn.refl _ _).setAt (fun h => h rfl) _
        have HO7 := Lib.hid (show Blk w7 ob 70 ((outs.set i { y' with kn := true }).flatMap wmV).toArray by rw [hw7]; exact Blk.set4 HO6.out Hoi.out (by decide) rfl)
        have HB7 := Lib.hid (show Below w1.heap.size w1 w7 by rw [hw7]; exact (HBr.out.trans (HB6.out.mono hszr)).setCell hob _)
        have HX7 := Lib.hid (HX6.out.keptIn hkn7 (show gx ≠ ob by omega))
        have HXt7 := Lib.hid (Hxt6.out.kept HO6.out (by decide) hkn7)
        have Hwt7 := Lib.hid (show ∀ x ∈ outs.set i { y' with kn := true }, Wt w7 x from fun x hx => by
          rcases List.mem_or_eq_of_mem_set hx with h | h
          · exact (Hwt6.out x h).kept HO6.out (by decide) hkn7
          · rw [h]; exact Wt.kept (Hwt6.out y' (List.mem_of_getElem? Hoi.out)) HO6.out (by decide) hkn7)
        have Hol7 := Lib.hid (show (outs.set i { y' with kn := true }).length = n by rw [List.length_set]; exact Hol.out)
        have Hz7 := Lib.hid (show ∃ z : Wm, (outs.set i { y' with kn := true })[i]? = some z ∧ z.kn = true ∧ wyO z = some xm.w from ⟨_, List.getElem?_set_self (by rw [Hol.out]; exact hin), rfl, by simp [wyO, Hyf.out, Hyw.out]⟩)
        obtain ⟨os, hos⟩ : ∃ os, os = outs.set i { y' with kn := true } := ⟨_, rfl⟩
        rw [← hos] at HO7 Hwt7 Hol7 Hz7 Hinv1
        have c1 : w7.cell? ⟨w.heap.size, 1, none⟩ = some (.slice B m d) := by rw [(HC.out.below HB7.out HC.out.lt).cell]; rfl
        clear hw7 hkn7 hos HX6 HB6 HO6 Hwt6 Hxt6 Hoi Hyw Hyf hcq' q3 q4 HBr hszr Hol
        go_wp2_with fail
        clear c1
        go_loopw [83] (fun v83 wr => ∃ (j : Nat) (os : List Wm), v83 = .int .i64 (j : Int) ∧ j ≤ m ∧ os.length = n ∧ Gr.Inv (lksN vs lim ls) n s (os.map wyO) (os.map (·.kn)) (r + 1) i j ∧ (∃ z : Wm, os[i]? = some z ∧ z.kn = true ∧ wyO z = some xm.w) ∧ Blk wr ob 70 (os.flatMap wmV).toArray ∧ (∀ x ∈ os, Wt wr x) ∧ Blk wr gx 70 (wmV xm).toArray ∧ Wt wr xm ∧ Below w1.heap.size w1 wr) (fun v83 _ => m - (intOf v83).toNat)
        case atStart => exact ⟨0, os, rfl, by omega, Hol7.out, Hinv1.out, Hz7.out, HO7.out, Hwt7.out, HX7.out, HXt7.out, HB7.out⟩
        case round =>
          clear Hol7 Hinv1 Hz7 HO7 Hwt7 HX7 HXt7 HB7 os
          obtain ⟨j, os, rfl, hjm, hol, hinv, hz, hO, hwt, hX, hXt, hBr⟩ := hrel
          have Hol := Lib.hid hol
          have Hinv := Lib.hid hinv
          have Hz := Lib.hid hz
          have HO := Lib.hid hO
          have Hwt := Lib.hid hwt
          have HX := Lib.hid hX
          have HXt := Lib.hid hXt
          have HBr := Lib.hid hBr
          have hszr := hBr.size
          clear hol hinv hz hO hwt hX hXt hBr
          by_cases hlt : j < m
          rotate_left
          · have hj : j = (lksN vs lim ls).length := by unfold lksN; rw [List.length_map, Hll.out]; omega
            rw [hj] at Hinv
            have d0 : decide ((j : Int) < (m : Int)) = false := decide_eq_false (by omega)
            have d1 : decide (j < m) = false := decide_eq_false hlt
            clear hj hlt
            go_wp2_with fail
            exact ⟨⟨r + 1, i, os, by go_num, by omega, Hol.out, Hinv.out, HO.out, Hwt.out, HBr.out⟩, by simp [intOf]; omega⟩
          have d0 : decide ((j : Int) < (m : Int)) = true := decide_eq_true (by omega)
          obtain ⟨b, off, l, eb, hl, hcl⟩ := ((Hl.out.below HB.out).below HBr.out).flat_ lnV_len (by omega) hlt
          subst eb
          have hgl : wr.rangeAt b (off + j * 8) (lnV l) := fun j v hv => by
            have := hcl j v hv
            rwa [← Nat.add_assoc] at this
          have Hgl := Lib.hid hgl
          have Hlj := Lib.hid hl
          have hn_ : Blk (wr.alloc (.cells (lnV ln0).toArray 53)) wr.heap.size 53 (lnV ln0).toArray := Blk.new _ _ _
          have Hn_ := Lib.hid hn_
          clear hgl hl hcl hn_
          go_upto_region 23 with (first | (refine wpList_load_mid rfl 53 (.tmp 86) rfl b (off + j * 8) rfl (lnV l) d53 Hgl.out hd53 hrow53 (by rw [lnV_len]; kernel_rfl) ?_) | (refine wpList_alloc0 rfl 53 rfl (lnV ln0).toArray _ i53 hi53 hz53 rfl ?_; simp only [Act.put, List.setIfInBounds_toArray, List.set_cons_succ, List.set_cons_zero]) | (refine wpList_store_row rfl 53 (.tmp 17) (.tmp 87) rfl wr.heap.size (lnV l).toArray rfl rfl 53 (lnV ln0).toArray Hn_.out (size53 _ rfl) rfl (ln_one _) ?_))
          obtain ⟨w3, hw3⟩ : ∃ v, v = (wr.alloc (.cells (lnV ln0).toArray 53)).setRow wr.heap.size (lnV l).toArray := ⟨_, rfl⟩
          have hb3 : Below wr.heap.size wr w3 := by rw [hw3]; exact Below.setRow ((Below.refl _ _).alloc (Nat.le_refl _) _) (Nat.le_refl _) _
          have hL3 : Blk w3 wr.heap.size 53 (lnV l).toArray := by rw [hw3]; exact setRow_heap _ _ _ _ _ _ Hn_.out
          rw [← hw3]
          clear hw3 Hn_ Hgl d0
          obtain ⟨lb, hlb⟩ : ∃ v, v = wr.heap.size := ⟨_, rfl⟩
          rw [← hlb] at hL3 ⊢
          clear hlb
          have HL3 := Lib.hid hL3
          replace HO := Lib.hid (HO.out.below hb3 HO.out.lt)
          replace Hwt := Lib.hid (fun x hx => (Hwt.out x hx).below hb3)
          replace HX := Lib.hid (HX.out.below hb3 HX.out.lt)
          replace HXt := Lib.hid (HXt.out.below hb3)
          replace HBr := Lib.hid (HBr.out.trans (hb3.mono hszr))
          have hsz3 := HBr.out.size
          clear hL3 hb3
          have hHC := HC.out.below HBr.out HC.out.lt
          have hHD := HD.out.below HBr.out (by have := HD.out.lt; exact this)
          have HC3 := Lib.hid hHC
          have HD3 := Lib.hid hHD
          obtain ⟨vb, vo, vi, ea, hvi, cvi⟩ := ((Hr.out.below HB.out).below HBr.out).at_ hin
          subst ea
          have Hvi := Lib.hid hvi
          have e0 : w3.cell? ⟨lb, 0, none⟩ = some (.int .i64 l.f) := by rw [HL3.out.cell]; rfl
          have g0 : w3.cell? ⟨w.heap.size, 0, none⟩ = some (.slice (some ⟨vb, vo, none⟩) n c) := by rw [hHC.cell]; rfl
          have v0 : w3.cell? ⟨vb, vo + i, none⟩ = some (.int .i64 vi) := cvi
          have hfu : l.f ∈ vs := (Hv.out.ln j l Hlj.out).1
          have htu : l.t ∈ vs := (Hv.out.ln j l Hlj.out).2.1
          have hc0 : 0 ≤ l.c ∧ l.c ≤ 1000000 := (Hv.out.ln j l Hlj.out).2.2.2
          have Htu := Lib.hid htu
          clear hHC hHD hvi cvi htu
          by_cases hfi : l.f = vi
          rotate_left
          · have hsk : Gr.Inv (lksN vs lim ls) n s (os.map wyO) (os.map (·.kn)) (r + 1) i (j + 1) := by
              obtain ⟨u, _, _, hu⟩ := idx_lt hfu
              obtain ⟨t, _, _, ht⟩ := idx_lt Htu.out
              exact Gr.inv_skip Hinv.out (Hv.out.at_ lim Hlj.out hu ht) (fun h => hfi (by rw [h.1, Hvi.out] at hu; exact (Option.some.inj hu).symm))
            have Hsk := Lib.hid hsk
            have q1 : (l.f != vi) = true := by simpa using hfi
            clear hsk hfi hfu
            simp only [Act.put]
            go_cut [102] from 88 to 102 (fun t102 wx => t102 = .bool true ∧ Below w3.heap.size w3 wx)
            case first =>
              go_quiet (fail)
              go_wp2_with fail
              go_meet
              exact ⟨rfl, below_drewN (Below.refl _ _) _⟩
            case' rest => skip
            obtain ⟨rfl, hb4⟩ := hcut
            obtain ⟨w4, hw4⟩ : ∃ v, v = wc := ⟨_, rfl⟩
            subst hw4
            have Hend := Lib.hid (show os.length = n ∧ Gr.Inv (lksN vs lim ls) n s (os.map wyO) (os.map (·.kn)) (r + 1) i (j + 1) ∧ (∃ z : Wm, os[i]? = some z ∧ z.kn = true ∧ wyO z = some xm.w) ∧ Blk w4 ob 70 (os.flatMap wmV).toArray ∧ (∀ x ∈ os, Wt w4 x) ∧ Blk w4 gx 70 (wmV xm).toArray ∧ Wt w4 xm ∧ Below w1.heap.size w1 w4 from ⟨Hol.out, Hsk.out, Hz.out, HO.out.below hb4 HO.out.lt, fun x hx => (Hwt.out x hx).below hb4, HX.out.below hb4 HX.out.lt, HXt.out.below hb4, HBr.out.trans (hb4.mono hsz3)⟩)
            clear hb4 e0 g0 v0
            go_wp2_with fail
            exact ⟨⟨j + 1, os, by go_num, by omega, Hend.out⟩, by simp [intOf]; omega⟩
          have q1 : (l.f != vi) = false := by simpa using hfi
          have Hfi := Lib.hid hfi
          have hrn : ∀ w', Ext w3 w' → w'.rangeAt lb 3 (ndV l.n) := fun w' hw' j v hv => by
            rw [(HL3.out.below (ext_below hw') HL3.out.lt).cell, List.getElem?_toArray]
            unfold lnV
            rw [List.getElem?_append_right (by simp)]
            simpa using hv
          have hrm : ∀ w', Ext w3 w' → w'.rangeAt (w.heap.size + 1) 0 (ndV lim) := fun w' hw' => Blk.range (HD3.out.below (ext_below hw') HD3.out.lt)
          have Hrn := Lib.hid hrn
          have Hrm := Lib.hid hrm
          obtain ⟨F, hF⟩ : ∃ F, F = fitsB l.n lim := ⟨_, rfl⟩
          have HF := Lib.hid hF
          have e0r := cell_regrown e0
          have g0r := cell_regrown g0
          have v0r := cell_regrown v0
          clear hrn hrm hfi hF hfu e0 g0 v0
          simp only [Act.put]
          go_cut [102] from 88 to 102 (fun t102 wx => t102 = .bool (!F) ∧ Below w3.heap.size w3 wx)
          case first =>
            refine wp_region_web [0, 1, 2, 3, 4, 5, 6, 7, 8, 9, 10, 11] 3 (by kernel_rfl) (by kernel_rfl) (fun _ _ d _ _ h => by cases d <;> exact h) (by kernel_rfl) (by kernel_rfl) rfl ?_
            simp only [pickOps, List.getElem?_cons_zero, List.getElem?_cons_succ]
            repeat (first | go_big_quiet_step (fail) | (refine wpQuiet_load_mid_g (by first | rfl | simp [Region.wanted, yielded]) 28 (.tmp 97) rfl lb 3 rfl (ndV l.n) _ Hrn.out hd28 hrow28 (by rw [ndV_len]; kernel_rfl) ?_; simp only [Act.put, List.setIfInBounds_toArray, List.set_cons_succ, List.set_cons_zero]) | (refine wpQuiet_load_mid_g (by first | rfl | simp [Region.wanted, yielded]) 28 (.tmp 5) rfl (w.heap.size + 1) 0 rfl (ndV lim) _ Hrm.out hd28 hrow28 (by rw [ndV_len]; kernel_rfl) ?_; simp only [Act.put, List.setIfInBounds_toArray, List.set_cons_succ, List.set_cons_zero]))
            refine wpQuiet_nil ?_
            refine web_start0 (fs := []) [.act 12 [], .plain [13, 14]] _ _ (by kernel_rfl) (fun _ _ d _ _ h => by cases d <;> exact h) trivial (by decide) (by decide) (by kernel_rfl) (by kernel_rfl) (ext_drew (ext_refl _)) (by intro F hF; simp at hF) 3 (by decide) (by kernel_rfl) ?_
            intro v1 W hW _ o ho K hK
            cases ho
            have hbW : Below w3.heap.size w3 W := ((Below.refl _ w3).drew).trans hW
            simp only [putS, List.foldl_nil, Act.put]
            have hfit := Fits_any l.n lim W
            rw [← HF.out] at hfit
            have Hfit := Lib.hid hfit
            clear hfit
            unfold StepP
            go_simp
            refine Hfit.out.mono ?_
            rintro e W2 ⟨rfl, hb3⟩
            refine hK _ _ (by intro F hF; simp at hF) hb3 ?_
            have hb3 := hbW.trans (hb3.mono hbW.size)
            clear hK K Hfit hW
            intro v2 W3 hW3
            simp only [putS, List.foldl_nil, Act.put, pickOps, List.getElem?_cons_zero, List.getElem?_cons_succ]
            repeat (go_big_quiet_step (fail))
            refine wpQuiet_nil ?_
            refine ⟨by intro F hF; simp at hF, ?_⟩
            intro v3 W4 hW4 _
            have Hend := Lib.hid (hb3.trans ((hW3.trans (hW4.mono hW3.size)).mono hb3.size))
            simp only [Exit.then, putS, List.foldl_nil, Act.put]
            go_wp2_with fail
            go_meet
            exact ⟨by trivial, Hend.out⟩
          case' rest => skip
          obtain ⟨rfl, hb4⟩ := hcut
          obtain ⟨w4, hw4⟩ : ∃ v, v = wc := ⟨_, rfl⟩
          subst hw4
          replace HO := Lib.hid (HO.out.below hb4 HO.out.lt)
          replace Hwt := Lib.hid (fun x hx => (Hwt.out x hx).below hb4)
          replace HX := Lib.hid (HX.out.below hb4 HX.out.lt)
          replace HXt := Lib.hid (HXt.out.below hb4)
          replace HBr := Lib.hid (HBr.out.trans (hb4.mono hsz3))
          have HL4 := Lib.hid (HL3.out.below hb4 HL3.out.lt)
          have HC4 := Lib.hid (HC3.out.below hb4 HC3.out.lt)
          have hsz4 := HBr.out.size
          clear hb4 e0r g0r v0r Hrn Hrm HC3 HD3 HL3
          cases F with
          | false =>
            have Hsk := Lib.hid (show Gr.Inv (lksN vs lim ls) n s (os.map wyO) (os.map (·.kn)) (r + 1) i (j + 1) from by
              obtain ⟨t, _, _, ht⟩ := idx_lt Htu.out
              have hk := Hv.out.at_ lim Hlj.out (by rw [Hvi.out, Hfi.out]) ht
              rw [← HF.out] at hk
              exact Gr.inv_skip Hinv.out hk (fun h => by cases h.2))
            go_wp2_with fail
            exact ⟨⟨j + 1, os, by go_num, by omega, Hol.out, Hsk.out, Hz.out, HO.out, Hwt.out, HX.out, HXt.out, HBr.out⟩, by simp [intOf]; omega⟩
          | true =>
            obtain ⟨z, hz, hzk, hzw⟩ := Hz.out
            obtain ⟨hx1, hx2⟩ := inv_bd Hv.out Hinv.out hz hzw
            have hx3 : xm.w.1 ≤ 17000000 := Nat.le_trans hx1 (by omega)
            have Hzi := Lib.hid hz
            have Hzk := Lib.hid hzk
            have Hzw := Lib.hid hzw
            have Hx2 := Lib.hid hx2
            have e1 : w4.cell? ⟨lb, 1, none⟩ = some (.int .i64 l.t) := by rw [HL4.out.cell]; rfl
            have Hrg := Lib.hid (Blk.range HC4.out)
            have Hfd := Lib.hid (find_any (some ⟨vb, vo, none⟩) n c (some ⟨b, off, none⟩) m d vs l.t w4 ((Hr.out.below HB.out).below HBr.out) (by omega) Hv.out.inc)
            clear hz hzk hzw hx1 hx2 Hz q1
            go_upto_region 25 with (refine wpList_load_mid rfl 33 (.tmp 3) rfl w.heap.size 0 rfl (grV (some ⟨vb, vo, none⟩) n c (some ⟨b, off, none⟩) m d) d33 Hrg.out hd33 hrow33 (by rw [grV_len]; kernel_rfl) ?_)
            refine Hfd.out.mono ?_
            rintro e w5 ⟨⟨t, rfl, ht⟩, hb5⟩
            have htv := ht Htu.out
            have hlk := Hv.out.at_ lim Hlj.out (by rw [Hvi.out, Hfi.out]) htv
            rw [← HF.out] at hlk
            have htn : t < n := by have := (List.getElem?_eq_some_iff.1 htv).1; rw [Hvl.out] at this; exact this
            obtain ⟨x, hx⟩ : ∃ x, os[t]? = some x := ⟨_, List.getElem?_eq_getElem (by rw [Hol.out]; exact htn)⟩
            rw [decide_eq_true Htu.out]
            have Hlk := Lib.hid hlk
            have Hx := Lib.hid hx
            replace HO := Lib.hid (HO.out.below hb5 HO.out.lt)
            replace Hwt := Lib.hid (fun x hx => (Hwt.out x hx).below hb5)
            replace HX := Lib.hid (HX.out.below hb5 HX.out.lt)
            replace HXt := Lib.hid (HXt.out.below hb5)
            replace HBr := Lib.hid (HBr.out.trans (hb5.mono hsz4))
            have HL5 := Lib.hid (HL4.out.below hb5 HL4.out.lt)
            have hsz5 := HBr.out.size
            clear hb5 ht htv hlk hx e1 Hrg Hfd HL4 HC4 Hlj Hfi Hvi Htu
            go_upto_region 25 with fail
            have x0 : w5.cell? ⟨gx, 0, none⟩ = some (.slice xm.A xm.n xm.c) := by rw [HX.out.cell]; rfl
            have x1 : w5.cell? ⟨gx, 1, none⟩ = some (.int .i64 (xm.w.1 : Int)) := by rw [HX.out.cell]; rfl
            have l2 : w5.cell? ⟨lb, 2, none⟩ = some (.int .i64 l.c) := by rw [HL5.out.cell]; rfl
            have x0r := cell_regrown x0
            have x1r := cell_regrown x1
            have l2r := cell_regrown l2
            obtain ⟨L, hL⟩ : ∃ L : List Nat, L = xm.w.2 ++ [j] := ⟨_, rfl⟩
            have hLl : (castL L).length ≤ 18 := by rw [hL, castL, List.length_map, List.length_append, List.length_singleton]; have := Hx2.out; omega
            have HL := Lib.hid hL
            clear x0 x1 l2 hL
            go_cut [20] from 110 to 121 (fun t20 wx => ∃ (B20 : Nat) (nx : Wm), t20 = .pointer (some ⟨B20, 0, none⟩) ∧ nx.w = (xm.w.1 + l.c.toNat, xm.w.2 ++ [j]) ∧ nx.f = true ∧ nx.kn = false ∧ Blk wx B20 70 (wmV nx).toArray ∧ Wt wx nx ∧ Below w5.heap.size w5 wx)
            case first =>
              refine wp_region_reads_tail 13 [0, 1, 2, 6, 7, 8, 9, 10] 5 (by kernel_rfl) (List.take_append_drop _ _) rfl (by kernel_rfl) (by kernel_rfl) (by kernel_rfl) (by decide) (by kernel_rfl) (by kernel_rfl) (fun _ _ d _ _ h => by cases d <;> exact h) (by kernel_rfl) (by kernel_rfl) rfl ?_
              simp only [List.take_succ_cons, List.take_zero, List.drop_succ_cons, List.drop_zero, pickOps, List.getElem?_cons_zero, List.getElem?_cons_succ]
              repeat (go_big_quiet_step (fail))
              refine wpQuiet_nil ?_
              clear x0r x1r l2r
              refine web_start0 (fs := [floVar 12 20 70 (wyC none 0 0 0 false false).toArray]) [.act 3 [], .act 4 [], .act 5 [], .act 11 []] _ _ (by kernel_rfl) (fun _ _ d _ _ h => by cases d <;> exact h) ⟨⟨_, rfl, flo_var rfl rfl rfl _ i70 hi70 hz70 rfl⟩, trivial⟩ (by decide) (by decide) (by kernel_rfl) (by kernel_rfl) (ext_drew (ext_refl _)) (by intro F hF; simp at hF; subst hF; simp) 5 (by decide) (by kernel_rfl) ?_
              intro v1 W hW _ o ho K hK
              cases ho
              have hbW : Below w5.heap.size w5 W := ((Below.refl _ w5).drew).trans hW
              simp only [putS, List.foldl_cons, List.foldl_nil, Act.put, List.setIfInBounds_toArray, List.set_cons_succ, List.set_cons_zero]
              unfold StepP
              go_simp
              have hr1 : Rd (W.alloc (.cells #[.int .i64 (j : Int)] 3)) 1 (some ⟨W.heap.size, 0, none⟩) 1 ([(j : Int)].map intV) := lit_rdE _ _ _
              have Hr1 := Lib.hid hr1
              have hba : Below W.heap.size W (W.alloc (.cells #[.int .i64 (j : Int)] 3)) := (Below.refl _ _).alloc (Nat.le_refl _) _
              refine hK _ _ (by intro F hF; simp at hF; subst hF; exact ⟨rfl, by simp []⟩) hba ?_
              have hbW := hbW.trans (hba.mono hbW.size)
              clear hK K hW hr1 hba
              intro v2 W3 hW3 _ o ho K hK
              cases ho
              have hb3 := hbW.trans (hW3.mono hbW.size)
              replace Hr1 := Lib.hid (Hr1.out.below hW3)
              simp only [putS, List.foldl_cons, List.foldl_nil, Act.put, List.setIfInBounds_toArray, List.set_cons_succ, List.set_cons_zero]
              unfold StepP
              go_simp
              have hli : LstI (W3.alloc (.cells #[.slice xm.A xm.n xm.c, .slice (some ⟨W.heap.size, 0, none⟩) 1 1] 30)) (some ⟨W3.heap.size, 0, none⟩) 2 [castL xm.w.2, [(j : Int)]] := lstI_two (s := ⟨xm.A, xm.n, xm.c⟩) (t := ⟨some ⟨W.heap.size, 0, none⟩, 1, 1⟩) _ (HXt.out.rd.below hb3) Hr1.out
              have Hli := Lib.hid hli
              have hba : Below W3.heap.size W3 (W3.alloc (.cells #[.slice xm.A xm.n xm.c, .slice (some ⟨W.heap.size, 0, none⟩) 1 1] 30)) := (Below.refl _ _).alloc (Nat.le_refl _) _
              refine hK _ _ (by intro F hF; simp at hF; subst hF; exact ⟨rfl, by simp []⟩) hba ?_
              have hb3 := hb3.trans (hba.mono hb3.size)
              clear hK K hW3 hli hba Hr1 hbW
              intro v3 W5 hW5 _ o ho K hK
              cases ho
              have hb5 := hb3.trans (hW5.mono hb3.size)
              simp only [putS, List.foldl_cons, List.foldl_nil, Act.put, List.setIfInBounds_toArray, List.set_cons_succ, List.set_cons_zero]
              have hcc := Concat_any (some ⟨W3.heap.size, 0, none⟩) 2 2 [castL xm.w.2, [(j : Int)]] W5 (Hli.out.below hW5) (by omega) (by rw [castL_snoc, ← HL.out]; omega)
              rw [castL_snoc, ← HL.out] at hcc
              have Hcc := Lib.hid hcc
              clear hcc
              unfold StepP
              go_simp
              refine Hcc.out.mono ?_
              rintro e W6 ⟨A6, c6, rfl, ht6, hc6, hb6⟩
              refine hK _ _ (by intro F hF; simp at hF; subst hF; exact ⟨rfl, by simp []⟩) hb6 ?_
              have hb6 := hb5.trans (hb6.mono hb5.size)
              have Ht6 := Lib.hid ht6
              clear hK K hW5 Hli Hcc ht6 hb5 hb3
              intro v4 W7 hW7 _ o ho K hK
              cases ho
              have hb7 := hb6.trans (hW7.mono hb6.size)
              replace Ht6 := Lib.hid (Ht6.out.below hW7)
              simp only [putS, List.foldl_cons, List.foldl_nil, Act.put, List.setIfInBounds_toArray, List.set_cons_succ, List.set_cons_zero]
              refine step_buildN rfl 70 _ rfl [(0, .slice A6 (castL L).length c6), (1, .int .i64 ((xm.w.1 : Int) + l.c)), (2, .bool true)] rfl (wyC A6 (castL L).length c6 ((xm.w.1 : Int) + l.c) true false).toArray (built70 _ _ _ _) ?_
              refine hK _ _ (by intro F hF; simp at hF; subst hF; exact ⟨rfl, by simp [Act.put]⟩) (Below.refl _ _) ?_
              clear hK K hW7 hb6
              intro v5 W8 hW8 hall
              obtain ⟨B20, hvB, hBw, hBb⟩ := hall (floVar 12 20 70 (wyC none 0 0 0 false false).toArray) (by simp) (floVar 12 20 70 (wyC none 0 0 0 false false).toArray) (by simp) rfl
              have hvB' : v5 12 = .pointer (some ⟨B20, 0, none⟩) := hvB
              obtain ⟨nx, hnx⟩ : ∃ nx : Wm, nx = ⟨A6, (castL L).length, c6, (xm.w.1 + l.c.toNat, L), true, false⟩ := ⟨_, rfl⟩
              have hcells : wyC A6 (castL L).length c6 ((xm.w.1 : Int) + l.c) true false = wmV nx := by rw [hnx]; unfold wmV; congr 1; show (xm.w.1 : Int) + l.c = ((xm.w.1 + l.c.toNat : Nat) : Int); omega
              rw [hcells]
              have hb8 := hb7.trans (hW8.mono hb7.size)
              have hset := Below.setRow hb8 hBw (wmV nx).toArray
              have HK := (KeptIn.refl (fun k => k ≠ B20) W8).setRow (g := B20) (fun h => h rfl) (wmV nx).toArray
              have ht8 : Wt W8 nx := by rw [hnx]; exact ⟨Ht6.out.below hW8, hc6⟩
              have ht9 := ht8.kept hBb (by decide) HK
              have hB' : Blk (W8.setRow B20 (wmV nx).toArray) B20 70 (wmV nx).toArray := setRow_heap _ _ _ _ _ _ hBb
              have Hset := Lib.hid hset
              have Ht9 := Lib.hid ht9
              have HB' := Lib.hid hB'
              have Hnx := Lib.hid (show nx.w = (xm.w.1 + l.c.toNat, xm.w.2 ++ [j]) ∧ nx.f = true ∧ nx.kn = false by rw [hnx, ← HL.out]; exact ⟨rfl, rfl, rfl⟩)
              have Hone := Lib.hid (show (wmV nx).toArray.all (·.oneCell') = true by unfold wmV; exact wy_one _ _ _ _ _ _)
              simp only [Exit.then, putS, List.foldl_cons, List.foldl_nil, Act.put, List.setIfInBounds_toArray, List.set_cons_succ, List.set_cons_zero]
              rw [hvB']
              refine wpList_store_row rfl 70 (.tmp 20) (.tmp 121) rfl B20 (wmV nx).toArray rfl rfl 70 (wyC none 0 0 0 false false).toArray hBb (size70 _ rfl) rfl Hone.out ?_
              refine wpList_nil ?_
              clear hset HK ht8 ht9 hB' hb8 hW8 hb7 hall hvB hvB' hBb hnx hcells Ht6
              go_wp2_with fail
              go_meet
              exact ⟨B20, nx, rfl, Hnx.out.1, Hnx.out.2.1, Hnx.out.2.2, HB'.out, Ht9.out, Hset.out⟩
            case' rest => skip
            obtain ⟨B20, nx, rfl, hnw, hnf, hnk, hN, hNt, hb6⟩ := hcut
            obtain ⟨w6, hw6⟩ : ∃ v, v = wc := ⟨_, rfl⟩
            subst hw6
            have HN := Lib.hid hN
            have HNt := Lib.hid hNt
            have Hnw := Lib.hid hnw
            have Hnf := Lib.hid hnf
            have Hnk := Lib.hid hnk
            replace HO := Lib.hid (HO.out.below hb6 HO.out.lt)
            replace Hwt := Lib.hid (fun x hx => (Hwt.out x hx).below hb6)
            replace HX := Lib.hid (HX.out.below hb6 HX.out.lt)
            replace HXt := Lib.hid (HXt.out.below hb6)
            replace HBr := Lib.hid (HBr.out.trans (hb6.mono hsz5))
            have hsz6 := HBr.out.size
            clear hb6 hN hNt hnw hnf hnk x0r x1r l2r HL5
            go_upto_region 26 with fail
            have k3 : w6.cell? ⟨ob, t * 4 + 3, none⟩ = some (.bool x.kn) := Blk.at4 HO.out Hx.out (by decide) rfl
            by_cases hxk : x.kn = true
            · rw [hxk] at k3
              have Hsk := Lib.hid (invK Hinv.out Hlk.out Hzi.out Hzw.out Hx.out hxk)
              clear hxk
              go_cut [136] from 122 to 136 (fun t136 wx => t136 = .bool false ∧ Below w6.heap.size w6 wx)
              case first =>
                go_quiet (fail)
                go_wp2_with fail
                go_meet
                exact ⟨rfl, below_drewN (Below.refl _ _) _⟩
              case' rest => skip
              obtain ⟨rfl, hb7⟩ := hcut
              obtain ⟨w7, hw7⟩ : ∃ v, v = wc := ⟨_, rfl⟩
              subst hw7
              have Hend := Lib.hid (show os.length = n ∧ Gr.Inv (lksN vs lim ls) n s (os.map wyO) (os.map (·.kn)) (r + 1) i (j + 1) ∧ (∃ z : Wm, os[i]? = some z ∧ z.kn = true ∧ wyO z = some xm.w) ∧ Blk w7 ob 70 (os.flatMap wmV).toArray ∧ (∀ x ∈ os, Wt w7 x) ∧ Blk w7 gx 70 (wmV xm).toArray ∧ Wt w7 xm ∧ Below w1.heap.size w1 w7 from ⟨Hol.out, Hsk.out, ⟨z, Hzi.out, Hzk.out, Hzw.out⟩, HO.out.below hb7 HO.out.lt, fun x hx => (Hwt.out x hx).below hb7, HX.out.below hb7 HX.out.lt, HXt.out.below hb7, HBr.out.trans (hb7.mono hsz6)⟩)
              clear hb7 k3
              go_wp2_with fail
              exact ⟨⟨j + 1, os, by go_num, by omega, Hend.out⟩, by simp [intOf]; omega⟩
            have hxk' : x.kn = false := by simpa using hxk
            rw [hxk'] at k3
            have Hxk := Lib.hid hxk'
            obtain ⟨Q, hQ⟩ : ∃ Q, Q = cmpF nx.f x.f (nx.w.1 : Int) (x.w.1 : Int) (castL nx.w.2) (castL x.w.2) := ⟨_, rfl⟩
            have HQ := Lib.hid hQ
            have k3r := cell_regrown k3
            have hry : ∀ w', Ext w6 w' → w'.rangeAt ob (t * 4) (wmV x) := fun w' hw' j v hv => Blk.at4 (HO.out.below (ext_below hw') HO.out.lt) Hx.out (by have := (List.getElem?_eq_some_iff.1 hv).1; exact this) hv
            have hrx : ∀ w', Ext w6 w' → w'.rangeAt B20 0 (wmV nx) := fun w' hw' => Blk.range (HN.out.below (ext_below hw') HN.out.lt)
            have Hry := Lib.hid hry
            have Hrx := Lib.hid hrx
            clear hxk hxk' k3 hQ hry hrx
            go_cut [136] from 122 to 136 (fun t136 wx => t136 = .bool (decide (Q < 0)) ∧ Below w6.heap.size w6 wx)
            case first =>
              refine wp_region_web [0, 1, 2, 3, 4, 5, 6, 7, 8, 9, 10, 11] 3 (by kernel_rfl) (by kernel_rfl) (fun _ _ d _ _ h => by cases d <;> exact h) (by kernel_rfl) (by kernel_rfl) rfl ?_
              simp only [pickOps, List.getElem?_cons_zero, List.getElem?_cons_succ]
              repeat (first | go_big_quiet_step (fail) | (refine wpQuiet_load_mid_g (by first | rfl | simp [Region.wanted, yielded]) 70 (.tmp 20) rfl B20 0 rfl (wmV nx) _ Hrx.out hd70 hrow70 (by rw [wmV_len]; kernel_rfl) ?_; simp only [Act.put, List.setIfInBounds_toArray, List.set_cons_succ, List.set_cons_zero]) | (refine wpQuiet_load_mid_g (by first | rfl | simp [Region.wanted, yielded]) 70 (.tmp 132) rfl ob (t * 4) rfl (wmV x) _ Hry.out hd70 hrow70 (by rw [wmV_len]; kernel_rfl) ?_; simp only [Act.put, List.setIfInBounds_toArray, List.set_cons_succ, List.set_cons_zero]))
              refine wpQuiet_nil ?_
              refine web_start0 (fs := []) [.act 12 [], .plain [13, 14]] _ _ (by kernel_rfl) (fun _ _ d _ _ h => by cases d <;> exact h) trivial (by decide) (by decide) (by kernel_rfl) (by kernel_rfl) (ext_drew (ext_refl _)) (by intro F hF; simp at hF) 3 (by decide) (by kernel_rfl) ?_
              intro v1 W hW _ o ho K hK
              cases ho
              have hbW : Below w6.heap.size w6 W := ((Below.refl _ w6).drew).trans hW
              simp only [putS, List.foldl_nil, Act.put]
              have hfit : Calls Try.prog 37 #[.agg (wmV nx).toArray, .agg (wmV x).toArray] W fun e w' => e = .returned (.int .i64 (cmpF nx.f x.f (nx.w.1 : Int) (x.w.1 : Int) (castL nx.w.2) (castL x.w.2))) ∧ Below W.heap.size W w' := compare_any nx.A x.A nx.n x.n nx.c x.c _ _ _ _ nx.f x.f nx.kn x.kn W (HNt.out.rd.below hbW) ((Hwt.out x (List.mem_of_getElem? Hx.out)).rd.below hbW)
              rw [← HQ.out] at hfit
              have Hfit := Lib.hid hfit
              clear hfit
              unfold StepP
              go_simp
              refine Hfit.out.mono ?_
              rintro e W2 ⟨rfl, hb3⟩
              refine hK _ _ (by intro F hF; simp at hF) hb3 ?_
              have hb3 := hbW.trans (hb3.mono hbW.size)
              clear hK K Hfit hW
              intro v2 W3 hW3
              simp only [putS, List.foldl_nil, Act.put, pickOps, List.getElem?_cons_zero, List.getElem?_cons_succ]
              repeat (go_big_quiet_step (fail))
              refine wpQuiet_nil ?_
              refine ⟨by intro F hF; simp at hF, ?_⟩
              intro v3 W4 hW4 _
              have Hend := Lib.hid (hb3.trans ((hW3.trans (hW4.mono hW3.size)).mono hb3.size))
              simp only [Exit.then, putS, List.foldl_nil, Act.put]
              go_wp2_with fail
              go_meet
              exact ⟨by trivial, Hend.out⟩
            case' rest => skip
            obtain ⟨rfl, hb7⟩ := hcut
            obtain ⟨w7, hw7⟩ : ∃ v, v = wc := ⟨_, rfl⟩
            subst hw7
            replace HO := Lib.hid (HO.out.below hb7 HO.out.lt)
            replace Hwt := Lib.hid (fun x hx => (Hwt.out x hx).below hb7)
            replace HX := Lib.hid (HX.out.below hb7 HX.out.lt)
            replace HXt := Lib.hid (HXt.out.below hb7)
            replace HN := Lib.hid (HN.out.below hb7 HN.out.lt)
            replace HNt := Lib.hid (HNt.out.below hb7)
            replace HBr := Lib.hid (HBr.out.trans (hb7.mono hsz6))
            have hsz7 := HBr.out.size
            clear hb7 k3r Hry Hrx
            have hQ2 : x.f = true → Q = Gr.cmpW (xm.w.1 + l.c.toNat, xm.w.2 ++ [j]) x.w := fun h => by
              rw [HQ.out, Hnf.out, h, cmpF, if_pos rfl, cmp3_cast, Hnw.out]
            have hQ3 : x.f = false → Q = -1 := fun h => by
              rw [HQ.out, Hnf.out, h]; rfl
            by_cases hq : Q < 0
            rotate_left
            · have hxf2 : x.f = true := by
                cases e : x.f with
                | true => rfl
                | false => have := hQ3 e; omega
              have hsk := invL Hinv.out Hlk.out Hzi.out Hzw.out Hx.out hxf2 (by rw [← hQ2 hxf2]; exact hq)
              have Hsk := Lib.hid hsk
              rw [decide_eq_false hq]
              clear hq hQ2 hQ3 hsk hxf2
              go_wp2_with fail
              exact ⟨⟨j + 1, os, by go_num, by omega, Hol.out, Hsk.out, ⟨z, Hzi.out, Hzk.out, Hzw.out⟩, HO.out, Hwt.out, HX.out, HXt.out, HBr.out⟩, by simp [intOf]; omega⟩
            have hsk := invS Hinv.out Hlk.out Hzi.out Hzk.out Hzw.out Hx.out Hxk.out (fun h => by rw [← hQ2 h]; exact hq) (nx := nx) (by rw [wyO_f Hnf.out, Hnw.out]) Hnk.out
            have Hsk := Lib.hid hsk
            rw [decide_eq_true hq]
            have Hone := Lib.hid (show (wmV nx).toArray.all (·.oneCell') = true by unfold wmV; exact wy_one _ _ _ _ _ _)
            have hth : w7.there ob (t * 4) (wmV nx).toArray.size := fun q hq => by
              have hq4 : q < 4 := hq
              obtain ⟨u, hu⟩ : ∃ u, (wmV x)[q]? = some u := ⟨_, List.getElem?_eq_getElem (by rw [wmV_len]; exact hq4)⟩
              exact ⟨by rw [Blk.at4 HO.out Hx.out hq4 hu]; rfl, HO.out.frozen _⟩
            have Hth := Lib.hid hth
            have hkp := kept_setW w7 ob (t * 4) nx
            have hti : t ≠ i := fun e => by
              have h1 := Hx.out
              rw [e, Hzi.out] at h1
              obtain rfl := Option.some.inj h1
              have h2 := Hzk.out
              rw [Hxk.out] at h2
              cases h2
            have Hend := Lib.hid (show (os.set t nx).length = n ∧ Gr.Inv (lksN vs lim ls) n s ((os.set t nx).map wyO) ((os.set t nx).map (·.kn)) (r + 1) i (j + 1) ∧ (∃ z : Wm, (os.set t nx)[i]? = some z ∧ z.kn = true ∧ wyO z = some xm.w) ∧ Blk (w7.setCells ob (t * 4) (wmV nx)) ob 70 ((os.set t nx).flatMap wmV).toArray ∧ (∀ x ∈ os.set t nx, Wt (w7.setCells ob (t * 4) (wmV nx)) x) ∧ Blk (w7.setCells ob (t * 4) (wmV nx)) gx 70 (wmV xm).toArray ∧ Wt (w7.setCells ob (t * 4) (wmV nx)) xm ∧ Below w1.heap.size w1 (w7.setCells ob (t * 4) (wmV nx)) from
              ⟨by rw [List.length_set]; exact Hol.out, Hsk.out, ⟨z, by rw [List.getElem?_set_ne hti]; exact Hzi.out, Hzk.out, Hzw.out⟩, Blk.setW HO.out Hx.out, fun y hy => by
                rcases List.mem_or_eq_of_mem_set hy with h | h
                · exact (Hwt.out y h).kept HO.out (by decide) hkp
                · rw [h]; exact HNt.out.kept HO.out (by decide) hkp, HX.out.keptIn hkp (show gx ≠ ob by omega), HXt.out.kept HO.out (by decide) hkp, below_setW HBr.out hob _ nx⟩)
            have Hrx := Lib.hid (Blk.range HN.out)
            clear hq hQ2 hQ3 hsk hth hkp hti
            go_wp2_with (first | (refine wpList_load_mid rfl 70 (.tmp 20) rfl B20 0 rfl (wmV nx) d70 Hrx.out hd70 hrow70 (by rw [wmV_len]; kernel_rfl) ?_) | (refine wpList_store_mid rfl 70 (.tmp 140) (.tmp 139) rfl ob (t * 4) (wmV nx).toArray rfl rfl Hth.out (size70 _ rfl) Hone.out ?_))
            exact ⟨⟨j + 1, os.set t nx, by go_num, by omega, Hend.out⟩, by simp [intOf]; omega⟩
end Go.Proofs.Ytgelchbbknckcaa
