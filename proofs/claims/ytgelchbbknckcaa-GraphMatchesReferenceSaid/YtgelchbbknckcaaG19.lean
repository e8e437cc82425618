/- What the laws of chapter 29 share: results as functions, made graphs are valid, specifications. -/
import Derived.Test.YtgelchbbknckcaaG18
namespace Go.Proofs.Ytgelchbbknckcaa
open Go.RowKit Go.Sort

def pathC (vs : List Int) (ls : List Ln) (lim : Nd) (fr tv : Int) : List Nat × Int × Int :=
  if fr ∈ vs ∧ tv ∈ vs then resC ((allC vs ls lim (idxI vs fr).toNat).getD (idxI vs tv).toNat none) else ([], 0, 291)
theorem pathR_C {vs : List Int} {ls : List Ln} {lim : Nd} {fr tv : Int} {L : List Nat} {k e : Int} (hv : Vg vs ls) (h : PathR vs ls lim fr tv L k e) : (L, k, e) = pathC vs ls lim fr tv := by
  unfold pathC
  by_cases hf : fr ∈ vs ∧ tv ∈ vs
  · rw [if_pos hf]
    obtain ⟨s, hs, hsl, hsv⟩ := idx_lt hf.1
    obtain ⟨t, ht, htl, htv⟩ := idx_lt hf.2
    rw [hs, ht, Int.toNat_natCast, Int.toNat_natCast]
    have hbf := allC_bf hv lim hsl
    exact pathR_eq hv hsv htv h hbf (Gr.getD_some (by rw [hbf.len]; exact htl) rfl)
  · rw [if_neg hf]
    refine pathR_none ?_ h
    by_cases h1 : fr ∈ vs
    · exact .inr fun h2 => hf ⟨h1, h2⟩
    · exact .inl h1
/-- A result as it is known. -/
def PathOk (vs : List Int) (ls : List Ln) (lim : Nd) (fr tv : Int) : Prop := PathR vs ls lim fr tv (pathC vs ls lim fr tv).1 (pathC vs ls lim fr tv).2.1 (pathC vs ls lim fr tv).2.2
theorem path_C (A : Option Addr) (n c : Nat) (B : Option Addr) (m d : Nat) (vs : List Int) (ls : List Ln) (fr tv : Int) (lim : Nd) (w : World) (hr : Rd w 1 A n (vs.map intV)) (hl : Rd w 8 B m (ls.flatMap lnV)) (hv : Vg vs ls) :
    Calls Try.prog 18 #[.agg (grV A n c B m d).toArray, .agg (asV fr tv lim).toArray] w fun e w' => (∃ (A' : Option Addr) (c' : Nat), e = .returned (.agg (rsV A' (pathC vs ls lim fr tv).1.length c' (pathC vs ls lim fr tv).2.1 (pathC vs ls lim fr tv).2.2).toArray) ∧ TRd w' 3 1 A' (pathC vs ls lim fr tv).1.length ((castL (pathC vs ls lim fr tv).1).map intV) ∧ PathOk vs ls lim fr tv) ∧ Below w.heap.size w w' := by
  refine (path_any A n c B m d vs ls fr tv lim w hr hl hv).mono ?_
  rintro e w' ⟨⟨A', c', L, k, x, rfl, hrd, hp, hcp⟩, hb⟩
  have := pathR_C hv hp
  unfold PathOk
  rw [← this]
  exact ⟨⟨A', c', rfl, hrd, hp⟩, hb⟩
theorem path_C2 (A : Option Addr) (n c : Nat) (B : Option Addr) (m d : Nat) (vs : List Int) (ls : List Ln) (fr tv : Int) (lim : Nd) (w : World) (hr : Rd w 1 A n (vs.map intV)) (hl : Rd w 8 B m (ls.flatMap lnV)) (hv : Vg vs ls) :
    Calls Try.prog 18 #[.agg (grV A n c B m d).toArray, .agg (asV fr tv lim).toArray] w fun e w' => (∃ (A' : Option Addr) (c' : Nat), e = .returned (.agg (rsV A' (pathC vs ls lim fr tv).1.length c' (pathC vs ls lim fr tv).2.1 (pathC vs ls lim fr tv).2.2).toArray) ∧ TRd w' 3 1 A' (pathC vs ls lim fr tv).1.length ((castL (pathC vs ls lim fr tv).1).map intV) ∧ PathOk vs ls lim fr tv ∧ (pathC vs ls lim fr tv).1.length ≤ c') ∧ Below w.heap.size w w' := by
  refine (path_any A n c B m d vs ls fr tv lim w hr hl hv).mono ?_
  rintro e w' ⟨⟨A', c', L, k, x, rfl, hrd, hp, hcp⟩, hb⟩
  have := pathR_C hv hp
  unfold PathOk
  rw [← this]
  exact ⟨⟨A', c', rfl, hrd, hp, hcp⟩, hb⟩
def reachC (vs : List Int) (ls : List Ln) (lim : Nd) (fr : Int) : List Int := if fr ∈ vs then reachL vs (allC vs ls lim (idxI vs fr).toNat) else []
theorem allR_C {vs : List Int} {ls : List Ln} {lim : Nd} {fr : Int} {bs : List (Option Gr.Wy)} (hv : Vg vs ls) (h : AllR vs ls lim fr bs) : reachL vs bs = reachC vs ls lim fr := by
  unfold reachC
  by_cases hf : fr ∈ vs
  · rw [if_pos hf]
    obtain ⟨s, hs, hsl, hsv⟩ := idx_lt hf
    rw [hs, Int.toNat_natCast, allR_eq hsv h (allC_bf hv lim hsl)]
  · rw [if_neg hf]; exact reach_none hf h
def ReachOk (vs : List Int) (ls : List Ln) (lim : Nd) (fr : Int) : Prop := ∃ bs, AllR vs ls lim fr bs ∧ reachC vs ls lim fr = reachL vs bs
theorem Reach_C (A : Option Addr) (n c : Nat) (B : Option Addr) (m d : Nat) (vs : List Int) (ls : List Ln) (fr : Int) (lim : Nd) (w : World) (hr : Rd w 1 A n (vs.map intV)) (hl : Rd w 8 B m (ls.flatMap lnV)) (hv : Vg vs ls) :
    Calls Try.prog 15 #[.agg (grV A n c B m d).toArray, .int .i64 fr, .agg (ndV lim).toArray] w fun e w' => (∃ (A' : Option Addr) (c' : Nat), e = .returned (.slice A' (reachC vs ls lim fr).length c') ∧ Rd w' 1 A' (reachC vs ls lim fr).length ((reachC vs ls lim fr).map intV) ∧ ReachOk vs ls lim fr) ∧ Below w.heap.size w w' := by
  refine (Reach_any A n c B m d vs ls fr lim w hr hl hv).mono ?_
  rintro e w' ⟨⟨A', c', bs, rfl, hrd, hp⟩, hb⟩
  have := allR_C hv hp
  rw [this] at hrd ⊢
  exact ⟨⟨A', c', rfl, hrd, bs, hp, this.symm⟩, hb⟩

/-! ### Made graphs -/
theorem verN_at {xs : List UInt8} {N k : Nat} {x : Int} (h : (verN xs N)[k]? = some x) : k < N ∧ x = (vAt xs (k + 1) : Nat) := by
  have hk : k < N := by have := (List.getElem?_eq_some_iff.1 h).1; rwa [verN_len] at this
  unfold verN at h
  rw [List.getElem?_map, List.getElem?_range hk] at h
  simp only [Option.map_some, Option.some.injEq] at h
  exact ⟨hk, h.symm⟩
theorem verN_get (xs : List UInt8) {N k : Nat} (h : k < N) : (verN xs N)[k]? = some ((vAt xs (k + 1) : Nat) : Int) := by
  unfold verN
  rw [List.getElem?_map, List.getElem?_range h]; rfl
theorem verN_bd {xs : List UInt8} {N : Nat} {x : Int} (h : x ∈ verN xs N) : 1 ≤ x ∧ x ≤ 3 * N := by
  obtain ⟨k, hk⟩ := List.mem_iff_getElem?.1 h
  obtain ⟨h1, rfl⟩ := verN_at hk
  have h2 := vAt_le xs (k + 1)
  have h3 : 1 ≤ vAt xs (k + 1) := by rw [vAt]; omega
  omega
theorem incF_of : ∀ (vs : List Int) (least : Int), (∀ x ∈ vs, x ≤ 60000) → (∀ (j : Nat) (a : Int), vs[j]? = some a → least ≤ a) → (∀ (i j : Nat) (a b : Int), i < j → vs[i]? = some a → vs[j]? = some b → a < b) → incF least vs = true
  | [], _, _, _, _ => rfl
  | v :: r, least, h1, h2, h3 => by
    rw [incF, Bool.and_eq_true, decide_eq_true_eq]
    exact ⟨⟨h2 0 v rfl, h1 v (by simp)⟩, incF_of r (v + 1) (fun x hx => h1 x (by simp [hx])) (fun j a hj => by have := h3 0 (j + 1) v a (by omega) rfl (by simpa using hj); omega) (fun i j a b hij ha hb => h3 (i + 1) (j + 1) a b (by omega) (by simpa using ha) (by simpa using hb))⟩
theorem rightB_need (a b c : UInt8) : rightB (needN a b c) = true := by
  have ha := a.toNat_lt; have hb := b.toNat_lt; have hc := c.toNat_lt
  unfold rightB fitsB needN nd0 ndM
  simp only [Bool.and_eq_true, decide_eq_true_eq]
  omega
theorem made_valid (xs : List UInt8) (ys : List R6) : validB (verN xs (min xs.length 7)) (madeL xs ys) = true := by
  obtain ⟨N, hN⟩ : ∃ N, N = min xs.length 7 := ⟨_, rfl⟩
  have hN7 : N ≤ 7 := by omega
  unfold validB madeL
  rw [← hN]
  rw [Bool.and_eq_true, Bool.and_eq_true, decide_eq_true_eq]
  refine ⟨⟨⟨by rw [verN_len]; omega, ?_⟩, ?_⟩, ?_⟩
  · split
    · rw [List.length_map, List.length_take]; omega
    · simp
  · refine incF_of _ _ (fun x hx => ?_) (fun j a hj => ?_) (fun i j a b hij ha hb => ?_)
    · have := verN_bd hx; omega
    · have := verN_bd (List.mem_of_getElem? hj); omega
    · obtain ⟨_, rfl⟩ := verN_at ha
      obtain ⟨_, rfl⟩ := verN_at hb
      have := vAt_lt xs (i + 1) (j + 1) (by omega)
      omega
  · split
    · next h1 =>
      rw [List.all_eq_true]
      intro l hl
      obtain ⟨y, _, rfl⟩ := List.mem_map.1 hl
      have hF : mkFrom N y < N := Nat.mod_lt _ (by omega)
      have hT : mkTo N y < N := Nat.mod_lt _ (by omega)
      have hne : mkFrom N y ≠ mkTo N y := by
        unfold mkTo
        have hz : y.b.toNat % (N - 1) < N - 1 := Nat.mod_lt _ (by omega)
        generalize y.b.toNat % (N - 1) = z at *
        intro e
        by_cases hlt : mkFrom N y + 1 + z < N
        · rw [Nat.mod_eq_of_lt hlt] at e; omega
        · rw [show mkFrom N y + 1 + z = (mkFrom N y + 1 + z - N) + N by omega, Nat.add_mod_right, Nat.mod_eq_of_lt (by omega)] at e
          omega
      unfold validL
      rw [Bool.and_eq_true, decide_eq_true_eq]
      refine ⟨⟨List.mem_of_getElem? (verN_get xs hF), List.mem_of_getElem? (verN_get xs hT), ?_, ?_, ?_⟩, rightB_need _ _ _⟩
      · show ((vAt xs (mkFrom N y + 1) : Nat) : Int) ≠ ((vAt xs (mkTo N y + 1) : Nat) : Int)
        intro e
        rcases Nat.lt_trichotomy (mkFrom N y + 1) (mkTo N y + 1) with h | h | h
        · have := vAt_lt xs _ _ h; omega
        · omega
        · have := vAt_lt xs _ _ h; omega
      · show (0 : Int) ≤ ((y.c.toNat % 8 : Nat) : Int); omega
      · show ((y.c.toNat % 8 : Nat) : Int) ≤ 1000000; omega
    · rfl
theorem made_vg (xs : List UInt8) (ys : List R6) {n : Nat} (hn : xs.length = n) : Vg (verN xs (min n 7)) (madeL xs ys) := by
  rw [← hn]; exact vg (made_valid xs ys)
theorem madeL_len (xs : List UInt8) (ys : List R6) : (madeL xs ys).length = madeM xs ys := by
  unfold madeL madeM
  split
  · rw [List.length_map, List.length_take]; omega
  · rfl
theorem madeM_le (xs : List UInt8) (ys : List R6) : madeM xs ys ≤ 14 := by unfold madeM; split <;> omega

/-! ### Specifications -/
def spVar (T : TypeId) (Z : Array Value) : Spec := ⟨fun v W => ∃ B, v = .pointer (some ⟨B, 0, none⟩) ∧ Blk W B T Z, fun _ _ _ ⟨B, h1, h2⟩ hb => ⟨B, h1, h2.below hb h2.lt⟩⟩
def spGr (N M : Nat) (vs : List Int) (ls : List Ln) : Spec := ⟨fun v W => ∃ (A : Option Addr) (c : Nat) (B : Option Addr) (d : Nat), v = .agg (grV A N c B M d).toArray ∧ TRd W 3 1 A N (vs.map intV) ∧ TRd W 53 8 B M (ls.flatMap lnV), fun _ _ _ ⟨A, c, B, d, h1, h2, h3⟩ hb => ⟨A, c, B, d, h1, h2.below hb, h3.below hb⟩⟩
def spPa (vs : List Int) (ls : List Ln) (lim : Nd) (fr tv : Int) : Spec := ⟨fun v W => ∃ (A : Option Addr) (c : Nat), v = .agg (rsV A (pathC vs ls lim fr tv).1.length c (pathC vs ls lim fr tv).2.1 (pathC vs ls lim fr tv).2.2).toArray ∧ TRd W 3 1 A (pathC vs ls lim fr tv).1.length ((castL (pathC vs ls lim fr tv).1).map intV) ∧ PathOk vs ls lim fr tv, fun _ _ _ ⟨A, c, h1, h2, h3⟩ hb => ⟨A, c, h1, h2.below hb, h3⟩⟩
theorem Made_C (A : Option Addr) (n c : Nat) (B : Option Addr) (m d : Nat) (xs : List UInt8) (ys : List R6) (w : World) (hr : Rd w 1 A n (xs.map byteV)) (hl : Rd w 6 B m (ys.flatMap r6V)) :
    Calls Try.prog 12 #[.agg (grV A n c B m d).toArray] w fun e w' => (∃ A' c' B' d', e = .returned (.agg (grV A' (min n 7) c' B' (madeM xs ys) d').toArray) ∧ TRd w' 3 1 A' (min n 7) ((verN xs (min n 7)).map intV) ∧ TRd w' 53 8 B' (madeM xs ys) ((madeL xs ys).flatMap lnV)) ∧ Below w.heap.size w w' := by
  refine (Made_any A n c B m d xs ys w hr hl).mono ?_
  rintro e w' ⟨⟨A', c', B', d', rfl, h1, h2⟩, hb⟩
  exact ⟨⟨A', c', B', d', rfl, h1.trd, h2.trd⟩, hb⟩
def spGr2 (N M : Nat) (vs : List Int) (ls : List Ln) : Spec := ⟨fun v W => ∃ (A : Option Addr) (c : Nat) (B : Option Addr) (d : Nat), v = .agg (grV A N c B M d).toArray ∧ TRd W 3 1 A N (vs.map intV) ∧ TRd W 53 8 B M (ls.flatMap lnV) ∧ M ≤ d, fun _ _ _ ⟨A, c, B, d, h1, h2, h3, h4⟩ hb => ⟨A, c, B, d, h1, h2.below hb, h3.below hb, h4⟩⟩
def spPa2 (vs : List Int) (ls : List Ln) (lim : Nd) (fr tv : Int) : Spec := ⟨fun v W => ∃ (A : Option Addr) (c : Nat), v = .agg (rsV A (pathC vs ls lim fr tv).1.length c (pathC vs ls lim fr tv).2.1 (pathC vs ls lim fr tv).2.2).toArray ∧ TRd W 3 1 A (pathC vs ls lim fr tv).1.length ((castL (pathC vs ls lim fr tv).1).map intV) ∧ PathOk vs ls lim fr tv ∧ (pathC vs ls lim fr tv).1.length ≤ c, fun _ _ _ ⟨A, c, h1, h2, h3, h4⟩ hb => ⟨A, c, h1, h2.below hb, h3, h4⟩⟩
theorem Made_C2 (A : Option Addr) (n c : Nat) (B : Option Addr) (m d : Nat) (xs : List UInt8) (ys : List R6) (w : World) (hr : Rd w 1 A n (xs.map byteV)) (hl : Rd w 6 B m (ys.flatMap r6V)) :
    Calls Try.prog 12 #[.agg (grV A n c B m d).toArray] w fun e w' => (∃ A' c' B' d', e = .returned (.agg (grV A' (min n 7) c' B' (madeM xs ys) d').toArray) ∧ TRd w' 3 1 A' (min n 7) ((verN xs (min n 7)).map intV) ∧ TRd w' 53 8 B' (madeM xs ys) ((madeL xs ys).flatMap lnV) ∧ madeM xs ys ≤ d') ∧ Below w.heap.size w w' := by
  refine (Made_any A n c B m d xs ys w hr hl).mono ?_
  rintro e w' ⟨⟨A', c', B', d', rfl, h1, h2⟩, hb⟩
  obtain ⟨_, _, e, h3, _⟩ := h2.rd
  cases e
  exact ⟨⟨A', c', B', d', rfl, h1.trd, h2.trd, h3⟩, hb⟩
/-- The cheapest way by a third version. -/
theorem detour {vs : List Int} {ls : List Ln} {lim : Nd} {a b c : Int} (hv : Vg vs ls) (hp : PathOk vs ls lim a b) (hq : PathOk vs ls lim b c) (hr : PathOk vs ls lim a c) (hpe : (pathC vs ls lim a b).2.2 = 0) (hqe : (pathC vs ls lim b c).2.2 = 0) : (pathC vs ls lim a c).2.2 = 0 ∧ (pathC vs ls lim a c).2.1 ≤ (pathC vs ls lim a b).2.1 + (pathC vs ls lim b c).2.1 := by
  rcases hp with ⟨_, _, _, h⟩ | ⟨s, t, hs, ht, ⟨_, _, _, h⟩ | ⟨w, hw, _, _, hk, _⟩⟩
  · omega
  · omega
  rcases hq with ⟨_, _, _, h⟩ | ⟨t', u, ht', hu, ⟨_, _, _, h⟩ | ⟨x, hx, _, _, hk', _⟩⟩
  · omega
  · omega
  obtain rfl := hv.uniq ht ht'
  have hwk := hw.1.append hx.1
  rcases hr with ⟨h, _⟩ | ⟨s', u', hs', hu', ⟨h, _⟩ | ⟨y, hy, _, _, hk'', he⟩⟩
  · rcases h with h | h
    · exact absurd (List.mem_of_getElem? hs) h
    · exact absurd (List.mem_of_getElem? hu) h
  · obtain rfl := hv.uniq hs hs'
    obtain rfl := hv.uniq hu hu'
    exact absurd hwk (h _)
  · obtain rfl := hv.uniq hs hs'
    obtain rfl := hv.uniq hu hu'
    have := (hy.2 _ hwk).cost
    simp only at this
    refine ⟨he, ?_⟩
    rw [hk, hk', hk'']
    omega
theorem strange_e {vs : List Int} {ls : List Ln} {lim : Nd} {fr tv : Int} (h : fr ∉ vs ∨ tv ∉ vs) : (pathC vs ls lim fr tv).2.2 = 291 := by
  unfold pathC
  rw [if_neg]
  rintro ⟨h1, h2⟩
  rcases h with h | h
  · exact h h1
  · exact h h2
end Go.Proofs.Ytgelchbbknckcaa
