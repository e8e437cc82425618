/- Package graph: Path, Reach; the law's path. -/
import Derived.Test.YtgelchbbknckcaaG15
namespace Go.Proofs.Ytgelchbbknckcaa
open Go.RowKit Go.Sort

/-- What Path answers. -/
def PathR (vs : List Int) (ls : List Ln) (lim : Nd) (fr tv : Int) (L : List Nat) (k e : Int) : Prop :=
  ((fr ∉ vs ∨ tv ∉ vs) ∧ L = [] ∧ k = 0 ∧ e = 291) ∨
  ∃ s t : Nat, vs[s]? = some fr ∧ vs[t]? = some tv ∧ ((Gr.Best (lksN vs lim ls) s t none ∧ L = [] ∧ k = 0 ∧ e = 290) ∨ ∃ w : Gr.Wy, Gr.Best (lksN vs lim ls) s t (some w) ∧ w.2.length + 1 ≤ vs.length ∧ L = w.2 ∧ k = (w.1 : Int) ∧ e = 0)
theorem Vg.uniq {vs : List Int} {ls : List Ln} (h : Vg vs ls) {i j : Nat} {x : Int} (hi : vs[i]? = some x) (hj : vs[j]? = some x) : i = j := by
  rcases Nat.lt_trichotomy i j with h1 | h1 | h1
  · have := h.inc i j x x h1 hi hj; omega
  · exact h1
  · have := h.inc j i x x h1 hj hi; omega
theorem PathR.uniq {vs : List Int} {ls : List Ln} {lim : Nd} {fr tv : Int} {L L' : List Nat} {k k' e e' : Int} (hv : Vg vs ls) (h : PathR vs ls lim fr tv L k e) (h' : PathR vs ls lim fr tv L' k' e') : L = L' ∧ k = k' ∧ e = e' := by
  rcases h with ⟨h1, rfl, rfl, rfl⟩ | ⟨s, t, hs, ht, h⟩
  · rcases h' with ⟨_, rfl, rfl, rfl⟩ | ⟨s', t', hs', ht', _⟩
    · exact ⟨rfl, rfl, rfl⟩
    · rcases h1 with h1 | h1
      · exact absurd (List.mem_of_getElem? hs') h1
      · exact absurd (List.mem_of_getElem? ht') h1
  · rcases h' with ⟨h1, _⟩ | ⟨s', t', hs', ht', h'⟩
    · rcases h1 with h1 | h1
      · exact absurd (List.mem_of_getElem? hs) h1
      · exact absurd (List.mem_of_getElem? ht) h1
    · obtain rfl := hv.uniq hs hs'
      obtain rfl := hv.uniq ht ht'
      rcases h with ⟨hb, rfl, rfl, rfl⟩ | ⟨w, hb, _, rfl, rfl, rfl⟩ <;> rcases h' with ⟨hb', rfl, rfl, rfl⟩ | ⟨w', hb', _, rfl, rfl, rfl⟩
      · exact ⟨rfl, rfl, rfl⟩
      · have := hb.uniq hb'; cases this
      · have := hb.uniq hb'; cases this
      · have := hb.uniq hb'; cases this; exact ⟨rfl, rfl, rfl⟩
/-- All ways from a version. -/
def AllR (vs : List Int) (ls : List Ln) (lim : Nd) (fr : Int) (bs : List (Option Gr.Wy)) : Prop :=
  bs.length = vs.length ∧ (∀ s : Nat, vs[s]? = some fr → ∀ (v : Nat) (b : Option Gr.Wy), bs[v]? = some b → Gr.Best (lksN vs lim ls) s v b ∧ ∀ y, b = some y → y.2.length + 1 ≤ vs.length) ∧ (fr ∉ vs → ∀ b ∈ bs, b = none)
theorem AllR.uniq {vs : List Int} {ls : List Ln} {lim : Nd} {fr : Int} {bs cs : List (Option Gr.Wy)} (h : AllR vs ls lim fr bs) (h' : AllR vs ls lim fr cs) : bs = cs := by
  apply List.ext_getElem (by rw [h.1, h'.1])
  intro i h1 h2
  have e1 := List.getElem?_eq_getElem h1
  have e2 := List.getElem?_eq_getElem h2
  by_cases hf : fr ∈ vs
  · obtain ⟨s, _, _, hs⟩ := idx_lt hf
    exact (h.2.1 s hs i _ e1).1.uniq (h'.2.1 s hs i _ e2).1
  · rw [h.2.2 hf _ (List.getElem_mem h1), h'.2.2 hf _ (List.getElem_mem h2)]
/-- The versions tv which a way leads. -/
def reachL : List Int → List (Option Gr.Wy) → List Int
  | v :: vs, some _ :: bs => v :: reachL vs bs
  | _ :: vs, none :: bs => reachL vs bs
  | _, _ => []
theorem reachL_take : ∀ {vs : List Int} {bs : List (Option Gr.Wy)} {k : Nat} {v : Int} {b : Option Gr.Wy}, vs[k]? = some v → bs[k]? = some b → reachL (vs.take (k + 1)) (bs.take (k + 1)) = reachL (vs.take k) (bs.take k) ++ (if b.isSome then [v] else [])
  | [], _, k, v, b, h, _ => by simp at h
  | _ :: _, [], k, v, b, _, h => by simp at h
  | x :: vs, y :: bs, 0, v, b, h, h2 => by
    simp at h h2; subst h; subst h2
    cases y <;> simp [reachL]
  | x :: vs, y :: bs, k + 1, v, b, h, h2 => by
    simp at h h2
    have := reachL_take h h2
    cases y with
    | none => simp only [List.take_succ_cons, reachL]; exact this
    | some q => simp only [List.take_succ_cons, reachL, List.cons_append]; rw [this]
theorem reachL_mem : ∀ {vs : List Int} {bs : List (Option Gr.Wy)} {x : Int}, x ∈ reachL vs bs ↔ ∃ (k : Nat) (b : Gr.Wy), vs[k]? = some x ∧ bs[k]? = some (some b)
  | [], bs, x => by simp [reachL]
  | _ :: _, [], x => by simp [reachL]
  | v :: vs, none :: bs, x => by
    rw [reachL, reachL_mem]
    constructor
    · rintro ⟨k, b, h1, h2⟩; exact ⟨k + 1, b, by simpa using h1, by simpa using h2⟩
    · rintro ⟨k, b, h1, h2⟩
      cases k with
      | zero => simp at h2
      | succ k => exact ⟨k, b, by simpa using h1, by simpa using h2⟩
  | v :: vs, some y :: bs, x => by
    rw [reachL, List.mem_cons, reachL_mem]
    constructor
    · rintro (rfl | ⟨k, b, h1, h2⟩)
      · exact ⟨0, y, by simp, by simp⟩
      · exact ⟨k + 1, b, by simpa using h1, by simpa using h2⟩
    · rintro ⟨k, b, h1, h2⟩
      cases k with
      | zero => simp at h1; exact .inl h1.symm
      | succ k => exact .inr ⟨k, b, by simpa using h1, by simpa using h2⟩
theorem reachL_len : ∀ (vs : List Int) (bs : List (Option Gr.Wy)), (reachL vs bs).length ≤ vs.length
  | [], bs => by simp [reachL]
  | _ :: _, [] => by simp [reachL]
  | v :: vs, none :: bs => by have := reachL_len vs bs; simp only [reachL, List.length_cons]; omega
  | v :: vs, some y :: bs => by have := reachL_len vs bs; simp only [reachL, List.length_cons]; omega
theorem waysR {vs : List Int} {ls : List Ln} {lim : Nd} {fr : Int} {outs : List Wm} {n : Nat} (hvl : vs.length = n) (hl : outs.length = n) (h1 : ∀ s : Nat, vs[s]? = some fr → ∀ (v : Nat) (x : Wm), outs[v]? = some x → Gr.Best (lksN vs lim ls) s v (wyO x) ∧ ∀ y, wyO x = some y → y.2.length + 1 ≤ n) (h2 : fr ∉ vs → ∀ x ∈ outs, x.f = false) : AllR vs ls lim fr (outs.map wyO) := by
  refine ⟨by rw [List.length_map, hl, hvl], fun s hs v b hb => ?_, fun hf b hb => ?_⟩
  · rw [List.getElem?_map] at hb
    cases e : outs[v]? with
    | none => rw [e] at hb; cases hb
    | some x =>
      rw [e] at hb
      simp only [Option.map_some, Option.some.injEq] at hb
      have := h1 s hs v x e
      rw [hb, ← hvl] at this
      exact this
  · obtain ⟨x, hx, rfl⟩ := List.mem_map.1 hb
    simp [wyO, h2 hf x hx]

theorem TRd.nil (w : World) (e : TypeId) (sz : Nat) (A : Option Addr) : TRd w e sz A 0 [] := ⟨Rd.nil _ _ _, fun h => absurd h (Nat.lt_irrefl _)⟩
set_option maxRecDepth 100000 in
set_option maxHeartbeats 2000000 in
theorem Path_any (A : Option Addr) (n c : Nat) (B : Option Addr) (m d : Nat) (vs : List Int) (ls : List Ln) (fr tv : Int) (lim : Nd) (w : World) (hr : Rd w 1 A n (vs.map intV)) (hl : Rd w 8 B m (ls.flatMap lnV)) (hv : Vg vs ls) :
    Calls Try.prog 30 #[.agg (grV A n c B m d).toArray, .int .i64 fr, .int .i64 tv, .agg (ndV lim).toArray] w fun e w' => (∃ (A' : Option Addr) (c' : Nat) (L : List Nat) (k x : Int), e = .returned (.tuple #[.slice A' L.length c', .int .i64 k, .int .i64 x]) ∧ TRd w' 3 1 A' L.length ((castL L).map intV) ∧ PathR vs ls lim fr tv L k x ∧ L.length ≤ c') ∧ Below w.heap.size w w' := by
  obtain ⟨i70, hi70, hz70, hs70, hy70⟩ := info_parts info70
  obtain ⟨d70, hd70, hrow70⟩ := und70
  obtain ⟨d33, hd33, hrow33⟩ := und33
  obtain ⟨d28, hd28, hrow28⟩ := und28
  have hvl := hr.len1
  have hn16 : n ≤ 16 := by have := hv.n; omega
  have Hr := Lib.hid hr
  have Hl := Lib.hid hl
  have Hv := Lib.hid hv
  have Hvl := Lib.hid hvl
  clear hr hl hv hvl
  go_enter Try.func30, Try.ntmps30
  go_upto_region 1 with fail
  obtain ⟨w1, hw1⟩ : ∃ v, v = (w.alloc (.cells (grV A n c B m d).toArray 33)).alloc (.cells (ndV lim).toArray 28) := ⟨_, rfl⟩
  have hB : Below w.heap.size w w1 := by rw [hw1]; exact ((Below.refl _ _).alloc (Nat.le_refl _) _).alloc (by simp) _
  have hC : Blk w1 w.heap.size 33 (grV A n c B m d).toArray := by rw [hw1]; exact (Blk.new _ _ _).alloc _
  have hD : Blk w1 (w.heap.size + 1) 28 (ndV lim).toArray := by
    have := Blk.new (w.alloc (.cells (grV A n c B m d).toArray 33)) 28 (ndV lim).toArray
    rw [World.size_alloc] at this
    rw [hw1]; exact this
  rw [← hw1]
  clear hw1
  have HC := Lib.hid hC
  have HD := Lib.hid hD
  have HB := Lib.hid hB
  have Hrg := Lib.hid (Blk.range hC)
  have Hfd := Lib.hid (find_any A n c B m d vs fr w1 (Hr.out.below hB) (by omega) Hv.out.inc)
  clear hC hD hB
  go_upto_region 2 with (refine wpList_load_mid rfl 33 (.tmp 4) rfl w.heap.size 0 rfl (grV A n c B m d) d33 Hrg.out hd33 hrow33 (by rw [grV_len]; kernel_rfl) ?_)
  refine Hfd.out.mono ?_
  rintro e w2 ⟨⟨s0, rfl, hs⟩, hb2⟩
  have hC2 := HC.out.below hb2 HC.out.lt
  have HB2 := Lib.hid (HB.out.trans (hb2.mono HB.out.size))
  have HC2 := Lib.hid hC2
  have HD2 := Lib.hid (HD.out.below hb2 HD.out.lt)
  have Hs := Lib.hid hs
  clear hs hb2 Hfd Hrg HC HD HB
  go_upto_region 2 with fail
  have Hrg := Lib.hid (Blk.range hC2)
  have Hfd := Lib.hid (find_any A n c B m d vs tv w2 (Hr.out.below HB2.out) (by omega) Hv.out.inc)
  clear hC2
  go_upto_region 3 with (refine wpList_load_mid rfl 33 (.tmp 4) rfl w.heap.size 0 rfl (grV A n c B m d) d33 Hrg.out hd33 hrow33 (by rw [grV_len]; kernel_rfl) ?_)
  refine Hfd.out.mono ?_
  rintro e w3 ⟨⟨t0, rfl, ht⟩, hb3⟩
  have HB3 := Lib.hid (HB2.out.trans (hb3.mono HB2.out.size))
  have HC3 := Lib.hid (HC2.out.below hb3 HC2.out.lt)
  have HD3 := Lib.hid (HD2.out.below hb3 HD2.out.lt)
  have Ht := Lib.hid ht
  clear ht hb3 Hfd Hrg HC2 HD2 HB2
  go_upto_region 3 with fail
  by_cases hf : fr ∈ vs
  rotate_left
  · have Hf := Lib.hid hf
    rw [decide_eq_false hf]
    clear hf
    go_wp2_with fail
    go_ret3
    exact ⟨⟨none, 0, [], 0, 291, rfl, TRd.nil _ _ _ _, .inl ⟨.inl Hf.out, rfl, rfl, rfl⟩, Nat.le_refl _⟩, HB3.out⟩
  by_cases ht : tv ∈ vs
  rotate_left
  · have Hf := Lib.hid ht
    rw [decide_eq_true hf, decide_eq_false ht]
    clear hf ht
    go_wp2_with fail
    go_ret3
    exact ⟨⟨none, 0, [], 0, 291, rfl, TRd.nil _ _ _ _, .inl ⟨.inr Hf.out, rfl, rfl, rfl⟩, Nat.le_refl _⟩, HB3.out⟩
  rw [decide_eq_true hf, decide_eq_true ht]
  replace Hs := Lib.hid (Hs.out hf)
  replace Ht := Lib.hid (Ht.out ht)
  have htn : t0 < n := by have := (List.getElem?_eq_some_iff.1 Ht.out).1; rw [Hvl.out] at this; exact this
  have Hw := Lib.hid (ways_any A n c B m d vs ls fr lim w3 (Hr.out.below HB3.out) (Hl.out.below HB3.out) Hv.out)
  have Hrg := Lib.hid (Blk.range HC3.out)
  have Hrd := Lib.hid (Blk.range HD3.out)
  clear hf ht
  go_upto_region 6 with (first | (refine wpList_load_mid rfl 33 (.tmp 4) rfl w.heap.size 0 rfl (grV A n c B m d) d33 Hrg.out hd33 hrow33 (by rw [grV_len]; kernel_rfl) ?_) | (refine wpList_load_mid rfl 28 (.tmp 7) rfl (w.heap.size + 1) 0 rfl (ndV lim) d28 Hrd.out hd28 hrow28 (by rw [ndV_len]; kernel_rfl) ?_))
  refine Hw.out.mono ?_
  rintro e w4 ⟨⟨g, outs, rfl, hg, hol, hO, hwt, hbest, _⟩, hb4⟩
  obtain ⟨x, hx⟩ : ∃ x, outs[t0]? = some x := ⟨_, List.getElem?_eq_getElem (by rw [hol]; exact htn)⟩
  have hxt := hwt x (List.mem_of_getElem? hx)
  obtain ⟨hbx, hlx⟩ := hbest s0 Hs.out t0 x hx
  have hrx : w4.rangeAt g (t0 * 4) (wmV x) := fun j v hv => Blk.at4 hO hx (by have := (List.getElem?_eq_some_iff.1 hv).1; exact this) hv
  have HB4 := Lib.hid (HB3.out.trans (hb4.mono HB3.out.size))
  have Hrx := Lib.hid hrx
  have Hxt := Lib.hid hxt
  have Hbx := Lib.hid hbx
  have Hlx := Lib.hid hlx
  have hn_ : Blk (w4.alloc (.cells (wyC none 0 0 0 false false).toArray 70)) w4.heap.size 70 (wyC none 0 0 0 false false).toArray := Blk.new _ _ _
  have Hn_ := Lib.hid hn_
  clear hO hwt hbest hb4 hx hxt hbx hlx hrx hn_ Hw Hrg Hrd HB3 HC3 HD3 hol
  go_upto_region 6 with (first | (refine wpList_load_mid rfl 70 (.tmp 39) rfl g (t0 * 4) rfl (wmV x) d70 Hrx.out hd70 hrow70 (by rw [wmV_len]; kernel_rfl) ?_) | (refine wpList_alloc0 rfl 70 rfl (wyC none 0 0 0 false false).toArray _ i70 hi70 hz70 rfl ?_; simp only [Act.put, List.setIfInBounds_toArray, List.set_cons_succ, List.set_cons_zero]) | (refine wpList_store_row rfl 70 (.tmp 15) (.tmp 40) rfl w4.heap.size (wmV x).toArray rfl rfl 70 (wyC none 0 0 0 false false).toArray Hn_.out (size70 _ rfl) rfl (wy_one _ _ _ _ _ _) ?_))
  obtain ⟨w5, hw5⟩ : ∃ v, v = (w4.alloc (.cells (wyC none 0 0 0 false false).toArray 70)).setRow w4.heap.size (wmV x).toArray := ⟨_, rfl⟩
  have hb5 : Below w4.heap.size w4 w5 := by rw [hw5]; exact Below.setRow ((Below.refl _ _).alloc (Nat.le_refl _) _) (Nat.le_refl _) _
  have hL5 : Blk w5 w4.heap.size 70 (wmV x).toArray := by rw [hw5]; exact setRow_heap _ _ _ _ _ _ Hn_.out
  rw [← hw5]
  clear hw5 Hn_
  obtain ⟨xb, hxb⟩ : ∃ v, v = w4.heap.size := ⟨_, rfl⟩
  rw [← hxb] at hL5 ⊢
  have c0 : w5.cell? ⟨xb, 0, none⟩ = some (.slice x.A x.n x.c) := by rw [hL5.cell]; rfl
  have c1 : w5.cell? ⟨xb, 1, none⟩ = some (.int .i64 (x.w.1 : Int)) := by rw [hL5.cell]; rfl
  have c2 : w5.cell? ⟨xb, 2, none⟩ = some (.bool x.f) := by rw [hL5.cell]; rfl
  have HB5 := Lib.hid (HB4.out.trans (hb5.mono HB4.out.size))
  replace Hxt := Lib.hid (Hxt.out.below hb5)
  clear hb5 hL5 hxb HB4 Hrx
  cases hxf : x.f with
  | false =>
    have hwy : wyO x = none := by simp [wyO, hxf]
    rw [hwy] at Hbx
    rw [hxf] at c2
    clear hxf hwy
    go_wp2_with fail
    go_ret3
    exact ⟨⟨none, 0, [], 0, 290, rfl, TRd.nil _ _ _ _, .inr ⟨s0, t0, Hs.out, Ht.out, .inl ⟨Hbx.out, rfl, rfl, rfl⟩⟩, Nat.le_refl _⟩, HB5.out⟩
  | true =>
    have hwy : wyO x = some x.w := by simp [wyO, hxf]
    rw [hwy] at Hbx Hlx
    rw [hxf] at c2
    clear hxf hwy
    have hxl : x.w.2.length = x.n := by have := Hxt.out.rd.len1; rw [castL, List.length_map] at this; exact this
    have Hxl := Lib.hid hxl
    clear hxl
    go_upto_region 8 with fail
    go_quiet (fail)
    go_wp2_with fail
    go_ret3
    refine ⟨⟨x.A, x.c, x.w.2, (x.w.1 : Int), 0, by rw [Hxl.out]; rfl, ?_, .inr ⟨s0, t0, Hs.out, Ht.out, .inr ⟨x.w, Hbx.out, by rw [Hvl.out]; exact Hlx.out _ rfl, rfl, rfl, rfl⟩⟩, by rw [Hxl.out]; exact Hxt.out.2⟩, below_drewN HB5.out _⟩
    rw [Hxl.out]
    exact ⟨Hxt.out.rd.drewN _, Hxt.out.1.2⟩
set_option maxRecDepth 100000 in
set_option maxHeartbeats 2000000 in
theorem Reach_any (A : Option Addr) (n c : Nat) (B : Option Addr) (m d : Nat) (vs : List Int) (ls : List Ln) (fr : Int) (lim : Nd) (w : World) (hr : Rd w 1 A n (vs.map intV)) (hl : Rd w 8 B m (ls.flatMap lnV)) (hv : Vg vs ls) :
    Calls Try.prog 15 #[.agg (grV A n c B m d).toArray, .int .i64 fr, .agg (ndV lim).toArray] w fun e w' => (∃ (A' : Option Addr) (c' : Nat) (bs : List (Option Gr.Wy)), e = .returned (.slice A' (reachL vs bs).length c') ∧ Rd w' 1 A' (reachL vs bs).length ((reachL vs bs).map intV) ∧ AllR vs ls lim fr bs) ∧ Below w.heap.size w w' := by
  obtain ⟨i70, hi70, hz70, hs70, hy70⟩ := info_parts info70
  obtain ⟨d70, hd70, hrow70⟩ := und70
  obtain ⟨d33, hd33, hrow33⟩ := und33
  obtain ⟨d28, hd28, hrow28⟩ := und28
  obtain ⟨i3, hi3, hz3, hs3, hy3⟩ := info_parts info3
  have hvl := hr.len1
  have hn16 : n ≤ 16 := by have := hv.n; omega
  have Hr := Lib.hid hr
  have Hl := Lib.hid hl
  have Hv := Lib.hid hv
  have Hvl := Lib.hid hvl
  clear hr hl hv hvl
  go_enter Try.func15, Try.ntmps15
  go_upto_region 1 with fail
  obtain ⟨w1, hw1⟩ : ∃ v, v = (w.alloc (.cells (grV A n c B m d).toArray 33)).alloc (.cells (ndV lim).toArray 28) := ⟨_, rfl⟩
  have hB : Below w.heap.size w w1 := by rw [hw1]; exact ((Below.refl _ _).alloc (Nat.le_refl _) _).alloc (by simp) _
  have hC : Blk w1 w.heap.size 33 (grV A n c B m d).toArray := by rw [hw1]; exact (Blk.new _ _ _).alloc _
  have hD : Blk w1 (w.heap.size + 1) 28 (ndV lim).toArray := by
    have := Blk.new (w.alloc (.cells (grV A n c B m d).toArray 33)) 28 (ndV lim).toArray
    rw [World.size_alloc] at this
    rw [hw1]; exact this
  rw [← hw1]
  clear hw1
  have HC := Lib.hid hC
  have HB := Lib.hid hB
  have Hrg := Lib.hid (Blk.range hC)
  have Hrd := Lib.hid (Blk.range hD)
  have Hw := Lib.hid (ways_any A n c B m d vs ls fr lim w1 (Hr.out.below hB) (Hl.out.below hB) Hv.out)
  clear hC hD hB
  go_upto_region 3 with (first | (refine wpList_load_mid rfl 33 (.tmp 3) rfl w.heap.size 0 rfl (grV A n c B m d) d33 Hrg.out hd33 hrow33 (by rw [grV_len]; kernel_rfl) ?_) | (refine wpList_load_mid rfl 28 (.tmp 5) rfl (w.heap.size + 1) 0 rfl (ndV lim) d28 Hrd.out hd28 hrow28 (by rw [ndV_len]; kernel_rfl) ?_))
  refine Hw.out.mono ?_
  rintro e w2 ⟨⟨g, outs, rfl, hg, hol, hO, hwt, hbest, hno⟩, hb2⟩
  have HAll := Lib.hid (waysR Hvl.out hol hbest hno)
  have HO := Lib.hid hO
  have Hol := Lib.hid hol
  have HC2 := Lib.hid (HC.out.below hb2 HC.out.lt)
  have HB2 := Lib.hid (HB.out.trans (hb2.mono HB.out.size))
  clear hO hwt hbest hno hb2 hg hol Hw Hrg Hrd HC HB
  go_wp2_with fail
  go_loopw [7, 15] (fun v7 v15 wr => ∃ k : Nat, v15 = .int .i64 (k : Int) ∧ k ≤ n ∧ App wr w2.heap.size 3 v7 (reachL (vs.take k) ((outs.map wyO).take k)).length ((reachL (vs.take k) ((outs.map wyO).take k)).map intV) ∧ Below w2.heap.size w2 wr) (fun _ v15 _ => n - (intOf v15).toNat)
  case atStart => exact ⟨0, rfl, by omega, by simpa [reachL] using App.nil _ _ _, Below.refl _ _⟩
  case round =>
    obtain ⟨k, rfl, hk, happ, hBr⟩ := hrel
    have Happ := Lib.hid happ
    have HBr := Lib.hid hBr
    have hszr := hBr.size
    clear happ hBr
    by_cases hlt : k < n
    · have hO := HO.out.below HBr.out HO.out.lt
      obtain ⟨x, hx⟩ : ∃ x, outs[k]? = some x := ⟨_, List.getElem?_eq_getElem (by rw [Hol.out]; exact hlt)⟩
      have Hrx := Lib.hid (show wr.rangeAt g (k * 4) (wmV x) from fun j v hv => Blk.at4 hO hx (by have := (List.getElem?_eq_some_iff.1 hv).1; exact this) hv)
      obtain ⟨b, off, v, rfl, hvk, cv⟩ := (Hr.out.below (HB2.out.trans (HBr.out.mono HB2.out.size))).at_ hlt
      have Htk := Lib.hid (reachL_take hvk (show (outs.map wyO)[k]? = some (wyO x) by rw [List.getElem?_map, hx]; rfl))
      have hlen : (reachL (vs.take k) ((outs.map wyO).take k)).length ≤ 16 := by have := reachL_len (vs.take k) ((outs.map wyO).take k); rw [List.length_take] at this; omega
      have d0 : decide ((k : Int) < (n : Int)) = true := decide_eq_true (by omega)
      have hn_ : Blk (wr.alloc (.cells (wyC none 0 0 0 false false).toArray 70)) wr.heap.size 70 (wyC none 0 0 0 false false).toArray := Blk.new _ _ _
      have Hn_ := Lib.hid hn_
      have cvr := cv
      clear hO hx hvk cv hn_
      go_upto_region 5 with (first | (refine wpList_load_mid rfl 70 (.tmp 18) rfl g (k * 4) rfl (wmV x) d70 Hrx.out hd70 hrow70 (by rw [wmV_len]; kernel_rfl) ?_) | (refine wpList_alloc0 rfl 70 rfl (wyC none 0 0 0 false false).toArray _ i70 hi70 hz70 rfl ?_; simp only [Act.put, List.setIfInBounds_toArray, List.set_cons_succ, List.set_cons_zero]) | (refine wpList_store_row rfl 70 (.tmp 9) (.tmp 19) rfl wr.heap.size (wmV x).toArray rfl rfl 70 (wyC none 0 0 0 false false).toArray Hn_.out (size70 _ rfl) rfl (wy_one _ _ _ _ _ _) ?_))
      obtain ⟨w5, hw5⟩ : ∃ v, v = (wr.alloc (.cells (wyC none 0 0 0 false false).toArray 70)).setRow wr.heap.size (wmV x).toArray := ⟨_, rfl⟩
      have hb5 : Below wr.heap.size wr w5 := by rw [hw5]; exact Below.setRow ((Below.refl _ _).alloc (Nat.le_refl _) _) (Nat.le_refl _) _
      have hL5 : Blk w5 wr.heap.size 70 (wmV x).toArray := by rw [hw5]; exact setRow_heap _ _ _ _ _ _ Hn_.out
      rw [← hw5]
      clear hw5 Hn_ d0
      obtain ⟨xb, hxb⟩ : ∃ v, v = wr.heap.size := ⟨_, rfl⟩
      rw [← hxb] at hL5 ⊢
      have c2 : w5.cell? ⟨xb, 2, none⟩ = some (.bool x.f) := by rw [hL5.cell]; rfl
      have g0 : w5.cell? ⟨w.heap.size, 0, none⟩ = some (.slice (some ⟨b, off, none⟩) n c) := by rw [((HC2.out.below HBr.out HC2.out.lt).below hb5 (HC2.out.below HBr.out HC2.out.lt).lt).cell]; rfl
      have v0 : w5.cell? ⟨b, off + k, none⟩ = some (.int .i64 v) := (hb5.cell (World.block_lt_of_cell? wr _ cvr)).trans cvr
      replace Happ := Lib.hid (Happ.out.below hb5 (Nat.le_refl _))
      have HB5 := Lib.hid (HBr.out.trans (hb5.mono hszr))
      have hsz5 := HB5.out.size
      clear hb5 hL5 hxb HBr Hrx cvr
      cases hxf : x.f with
      | false =>
        have hwy : wyO x = none := by simp [wyO, hxf]
        rw [hwy] at Htk
        rw [hxf] at c2
        clear hxf hwy
        go_wp2_with fail
        exact ⟨⟨k + 1, by go_num, by omega, by rw [Htk.out]; simpa using Happ.out, HB5.out⟩, by simp [intOf]; omega⟩
      | true =>
        have hwy : wyO x = some x.w := by simp [wyO, hxf]
        rw [hwy] at Htk
        rw [hxf] at c2
        clear hxf hwy
        go_wp2_with (at_builtin; go_loud (refine wpList_app rfl (.tmp 22) (.tmp 28) 30 rfl 3 i3 (.int .i64 0) 8 Try.underlying30 hi3 hz3 hs3 hy3 rfl w2.heap.size (by simp; omega) _ _ _ rfl (Happ.out.litE _) (some ⟨w5.heap.size, 0, none⟩) 1 1 [intV v] rfl (lit_rdE _ _ _) (by simp [intV, Value.oneCell']) (by unfold maxLen; omega) (by omega) ?_; intro v1 w6 happ6 hb6))
        have hB6 := (HB5.out.alloc hsz5 (.cells #[intV v] 3)).trans hb6
        exact ⟨⟨k + 1, by go_num, by omega, by rw [Htk.out]; simpa using happ6, hB6⟩, by simp [intOf]; omega⟩
    · have he : k = n := by omega
      have h1 : vs.take k = vs := List.take_of_length_le (by rw [Hvl.out]; omega)
      have h2 : (outs.map wyO).take k = outs.map wyO := List.take_of_length_le (by rw [List.length_map, Hol.out]; omega)
      rw [h1, h2] at Happ
      obtain ⟨A', c', rfl, hc', hR⟩ := Happ.out.rd
      have HR := Lib.hid hR
      have HBx := Lib.hid (HB2.out.trans (HBr.out.mono HB2.out.size))
      have d0 : decide ((k : Int) < (n : Int)) = false := decide_eq_false (by omega)
      have d1 : decide (k < n) = false := decide_eq_false hlt
      clear h1 h2 hR hlt he hk
      go_wp2_with fail
      go_ret
      exact ⟨⟨A', c', _, rfl, HR.out, HAll.out⟩, HBx.out⟩

def asV (fr tv : Int) (lim : Nd) : List Value := [.int .i64 fr, .int .i64 tv] ++ ndV lim
theorem asV_len (fr tv : Int) (lim : Nd) : (asV fr tv lim).length = 7 := rfl
theorem und40 : ∃ d, Try.prog.underlying 40 = some d ∧ d.isRow = true := by
  obtain ⟨d, h1, h2⟩ := Option.map_eq_some_iff.1 (show (Try.prog.underlying 40).map (·.isRow) = some true by kernel_rfl)
  exact ⟨d, h1, h2⟩
theorem info44 : (Try.prog.info? 44).map (fun i => (i.zero, i.size, i.bytes)) = some (some (.agg (rsV none 0 0 0 0).toArray), 3, 40) := by kernel_rfl
theorem size44 (cs : Array Value) (h : cs.size = 3) : (Try.prog.info? 44).map (·.size) = some cs.size := by rw [h]; kernel_rfl
theorem und44 : ∃ d, Try.prog.underlying 44 = some d ∧ d.isRow = true := by
  obtain ⟨d, h1, h2⟩ := Option.map_eq_some_iff.1 (show (Try.prog.underlying 44).map (·.isRow) = some true by kernel_rfl)
  exact ⟨d, h1, h2⟩
theorem rs_one (A : Option Addr) (n c : Nat) (k e : Int) : (rsV A n c k e).toArray.all (·.oneCell') = true := all_oneCell_toArray fun v hv => by
  simp only [rsV, List.mem_cons, List.not_mem_nil, or_false] at hv
  rcases hv with rfl | rfl | rfl <;> rfl
theorem built44 (A : Option Addr) (n c : Nat) (k e : Int) : Try.prog.built 44 [(0, .slice A n c), (1, .int .i64 k), (2, .int .i64 e)] = some (rsV A n c k e).toArray := by kernel_rfl

set_option maxRecDepth 100000 in
set_option maxHeartbeats 2000000 in
theorem path_any (A : Option Addr) (n c : Nat) (B : Option Addr) (m d : Nat) (vs : List Int) (ls : List Ln) (fr tv : Int) (lim : Nd) (w : World) (hr : Rd w 1 A n (vs.map intV)) (hl : Rd w 8 B m (ls.flatMap lnV)) (hv : Vg vs ls) :
    Calls Try.prog 18 #[.agg (grV A n c B m d).toArray, .agg (asV fr tv lim).toArray] w fun e w' => (∃ (A' : Option Addr) (c' : Nat) (L : List Nat) (k x : Int), e = .returned (.agg (rsV A' L.length c' k x).toArray) ∧ TRd w' 3 1 A' L.length ((castL L).map intV) ∧ PathR vs ls lim fr tv L k x ∧ L.length ≤ c') ∧ Below w.heap.size w w' := by
  obtain ⟨i44, hi44, hz44, hs44, hy44⟩ := info_parts info44
  obtain ⟨d44, hd44, hrow44⟩ := und44
  obtain ⟨d33, hd33, hrow33⟩ := und33
  obtain ⟨d28, hd28, hrow28⟩ := und28
  go_enter Try.func18, Try.ntmps18
  go_upto_region 1 with (refine wpList_alloc0 rfl 44 rfl (rsV none 0 0 0 0).toArray _ i44 hi44 hz44 rfl ?_; simp only [Act.put, List.setIfInBounds_toArray, List.set_cons_succ, List.set_cons_zero, World.size_alloc])
  obtain ⟨w1, hw1⟩ : ∃ v, v = ((w.alloc (.cells (grV A n c B m d).toArray 33)).alloc (.cells (asV fr tv lim).toArray 40)).alloc (.cells (rsV none 0 0 0 0).toArray 44) := ⟨_, rfl⟩
  have hB : Below w.heap.size w w1 := by rw [hw1]; exact (((Below.refl _ _).alloc (Nat.le_refl _) _).alloc (by simp) _).alloc (by simp; omega) _
  have hC : Blk w1 w.heap.size 33 (grV A n c B m d).toArray := by rw [hw1]; exact ((Blk.new _ _ _).alloc _).alloc _
  have hD : Blk w1 (w.heap.size + 1) 40 (asV fr tv lim).toArray := by
    have := Blk.new (w.alloc (.cells (grV A n c B m d).toArray 33)) 40 (asV fr tv lim).toArray
    rw [World.size_alloc] at this
    rw [hw1]; exact this.alloc _
  have hE : Blk w1 (w.heap.size + 1 + 1) 44 (rsV none 0 0 0 0).toArray := by
    have := Blk.new ((w.alloc (.cells (grV A n c B m d).toArray 33)).alloc (.cells (asV fr tv lim).toArray 40)) 44 (rsV none 0 0 0 0).toArray
    rw [World.size_alloc, World.size_alloc] at this
    rw [hw1]; exact this
  rw [← hw1]
  clear hw1
  have Hrg := Lib.hid (Blk.range hC)
  have hrn : w1.rangeAt (w.heap.size + 1) 2 (ndV lim) := fun j v hv => by
    rw [hD.cell, List.getElem?_toArray]
    unfold asV
    rw [List.getElem?_append_right (by simp)]
    simpa using hv
  have Hrn := Lib.hid hrn
  have c0 : w1.cell? ⟨w.heap.size + 1, 0, none⟩ = some (.int .i64 fr) := by rw [hD.cell]; rfl
  have c1 : w1.cell? ⟨w.heap.size + 1, 1, none⟩ = some (.int .i64 tv) := by rw [hD.cell]; rfl
  have HE := Lib.hid hE
  have HB := Lib.hid hB
  have Hp := Lib.hid (Path_any A n c B m d vs ls fr tv lim w1 (hr.below hB) (hl.below hB) hv)
  clear hC hD hE hB hrn hr hl hv
  go_upto_region 2 with (first | (refine wpList_load_mid rfl 33 (.tmp 2) rfl w.heap.size 0 rfl (grV A n c B m d) d33 Hrg.out hd33 hrow33 (by rw [grV_len]; kernel_rfl) ?_) | (refine wpList_load_mid rfl 28 (.tmp 14) rfl (w.heap.size + 1) 2 rfl (ndV lim) d28 Hrn.out hd28 hrow28 (by rw [ndV_len]; kernel_rfl) ?_))
  refine Hp.out.mono ?_
  rintro e w2 ⟨⟨A', c', L, k, x, rfl, hrd, hpr, hcp⟩, hb2⟩
  have HE2 := Lib.hid (HE.out.below hb2 HE.out.lt)
  have HB2 := Lib.hid (HB.out.trans (hb2.mono HB.out.size))
  have Hrd := Lib.hid hrd
  have Hpr := Lib.hid hpr
  clear hb2 hrd hpr c0 c1 Hp Hrg Hrn HE HB
  have hkp := (KeptIn.refl (fun k => k ≠ w.heap.size + 1 + 1) w2).setRow (g := w.heap.size + 1 + 1) (fun h => h rfl) (rsV A' L.length c' k x).toArray
  have Hfin := Lib.hid (Hrd.out.kept HE2.out (by decide) hkp)
  have HBx := Lib.hid (Below.setRow HB2.out (show w.heap.size ≤ w.heap.size + 1 + 1 by omega) (rsV A' L.length c' k x).toArray)
  clear hkp Hrd
  go_wp2_with (first | (refine wpList_buildN rfl 44 _ rfl [(0, .slice A' L.length c'), (1, .int .i64 k), (2, .int .i64 x)] rfl _ (built44 _ _ _ _ _) ?_) | (refine wpList_store_row rfl 44 (.tmp 4) (.tmp 23) rfl (w.heap.size + 1 + 1) (rsV A' L.length c' k x).toArray rfl rfl 44 (rsV none 0 0 0 0).toArray HE2.out (size44 _ rfl) rfl (rs_one _ _ _ _ _) ?_))
  refine bodyPost_ret (results_cell_row rfl _ _ (w.heap.size + 1 + 1) 44 (rsV A' L.length c' k x).toArray (0, 0) d44 rfl (setRow_heap _ _ _ _ _ _ HE2.out) hd44 (by cases d44 <;> first | rfl | exact hrow44) (size44 _ rfl)) rfl ⟨⟨A', c', L, k, x, rfl, Hfin.out, Hpr.out, hcp⟩, HBx.out⟩
end Go.Proofs.Ytgelchbbknckcaa
