/- Ways in a graph: their order, the least ones; plain Lean. -/
namespace Go.Proofs.Ytgelchbbknckcaa.Gr

/-- A link: from, to, cost, whether it fits. -/
abbrev Lk := Nat × Nat × Nat × Bool
/-- A way: its cost, its links. -/
abbrev Wy := Nat × List Nat

inductive Walk (ls : List Lk) (s : Nat) : Nat → Wy → Prop
  | nil : Walk ls s s (0, [])
  | snoc {u t k d : Nat} {w : Wy} : Walk ls s u w → ls[k]? = some (u, t, d, true) → Walk ls s t (w.1 + d, w.2 ++ [k])

/-- The order of lists of numbers: -1, 0, 1. -/
def cmpL : List Nat → List Nat → Int
  | [], [] => 0
  | [], _ :: _ => -1
  | _ :: _, [] => 1
  | a :: as, b :: bs => if a < b then -1 else if b < a then 1 else cmpL as bs
def cmpN (a b : Nat) : Int := if a < b then -1 else if b < a then 1 else 0
def cmpW (x y : Wy) : Int :=
  if cmpN x.1 y.1 ≠ 0 then cmpN x.1 y.1 else if cmpN x.2.length y.2.length ≠ 0 then cmpN x.2.length y.2.length else cmpL x.2 y.2

theorem cmpL_self : ∀ l, cmpL l l = 0
  | [] => rfl
  | a :: l => by simp [cmpL, cmpL_self l]
theorem cmpL_eq : ∀ a b, cmpL a b = 0 → a = b
  | [], [], _ => rfl
  | [], _ :: _, h => by simp [cmpL] at h
  | _ :: _, [], h => by simp [cmpL] at h
  | a :: as, b :: bs, h => by
    simp only [cmpL] at h
    split at h
    · omega
    · split at h
      · omega
      · rw [cmpL_eq as bs h, show a = b by omega]
theorem cmpL_neg : ∀ a b, cmpL b a = - cmpL a b
  | [], [] => rfl
  | [], _ :: _ => rfl
  | _ :: _, [] => rfl
  | a :: as, b :: bs => by
    simp only [cmpL]
    have := cmpL_neg as bs
    split <;> split <;> (try split) <;> omega
theorem cmpL_snoc : ∀ (a b : List Nat) (k : Nat), a.length = b.length → cmpL (a ++ [k]) (b ++ [k]) = cmpL a b
  | [], [], k, _ => by simp [cmpL]
  | [], _ :: _, _, h => by simp at h
  | _ :: _, [], _, h => by simp at h
  | a :: as, b :: bs, k, h => by
    simp only [List.cons_append, cmpL]
    rw [cmpL_snoc as bs k (by simpa using h)]
theorem cmpL_range : ∀ a b, cmpL a b = -1 ∨ cmpL a b = 0 ∨ cmpL a b = 1
  | [], [] => .inr (.inl rfl)
  | [], _ :: _ => .inl rfl
  | _ :: _, [] => .inr (.inr rfl)
  | a :: as, b :: bs => by
    simp only [cmpL]
    split
    · exact .inl rfl
    · split
      · exact .inr (.inr rfl)
      · exact cmpL_range as bs
theorem cmpL_trans : ∀ a b c : List Nat, cmpL a b ≤ 0 → cmpL b c ≤ 0 → cmpL a c ≤ 0 ∧ (cmpL a c = 0 → cmpL a b = 0 ∧ cmpL b c = 0)
  | [], [], [], _, _ => ⟨by simp [cmpL], fun _ => ⟨rfl, rfl⟩⟩
  | [], [], _ :: _, _, _ => ⟨by simp [cmpL], fun h => by simp [cmpL] at h⟩
  | [], _ :: _, [], _, h => by simp [cmpL] at h
  | [], _ :: _, _ :: _, _, _ => ⟨by simp [cmpL], fun h => by simp [cmpL] at h⟩
  | _ :: _, [], _, h, _ => by simp [cmpL] at h
  | _ :: _, _ :: _, [], _, h => by simp [cmpL] at h
  | a :: as, b :: bs, c :: cs, h1, h2 => by
    simp only [cmpL] at h1 h2 ⊢
    have ih := cmpL_trans as bs cs
    by_cases e1 : a < b
    · by_cases e2 : b < c
      · rw [if_pos (by omega)]; exact ⟨by omega, fun h => by omega⟩
      · rw [if_neg e2] at h2
        by_cases e3 : c < b
        · rw [if_pos e3] at h2; omega
        · rw [if_pos (by omega)]; exact ⟨by omega, fun h => by omega⟩
    · rw [if_neg e1] at h1
      by_cases e4 : b < a
      · rw [if_pos e4] at h1; omega
      · rw [if_neg e4] at h1
        by_cases e2 : b < c
        · rw [if_pos (by omega)]; exact ⟨by omega, fun h => by omega⟩
        · rw [if_neg e2] at h2
          by_cases e3 : c < b
          · rw [if_pos e3] at h2; omega
          · rw [if_neg e3] at h2
            rw [if_neg (by omega), if_neg (by omega), if_neg e1, if_neg e4, if_neg e2, if_neg e3]
            exact ih h1 h2

/-- At most as great. -/
def Le (x y : Wy) : Prop := cmpW x y ≤ 0
theorem cmpW_cases (x y : Wy) : (x.1 < y.1 ∧ cmpW x y = -1) ∨ (y.1 < x.1 ∧ cmpW x y = 1) ∨ (x.1 = y.1 ∧ ((x.2.length < y.2.length ∧ cmpW x y = -1) ∨ (y.2.length < x.2.length ∧ cmpW x y = 1) ∨ (x.2.length = y.2.length ∧ cmpW x y = cmpL x.2 y.2))) := by
  unfold cmpW cmpN
  by_cases h1 : x.1 < y.1
  · left; refine ⟨h1, ?_⟩; rw [if_pos h1]; simp
  · by_cases h2 : y.1 < x.1
    · right; left; refine ⟨h2, ?_⟩; rw [if_neg h1, if_pos h2]; simp
    · right; right
      refine ⟨by omega, ?_⟩
      rw [if_neg h1, if_neg h2]
      by_cases h3 : x.2.length < y.2.length
      · left; refine ⟨h3, ?_⟩; rw [if_pos h3]; simp
      · by_cases h4 : y.2.length < x.2.length
        · right; left; refine ⟨h4, ?_⟩; rw [if_neg h3, if_pos h4]; simp
        · right; right; refine ⟨by omega, ?_⟩; rw [if_neg h3, if_neg h4]; simp
theorem cmpW_range (x y : Wy) : cmpW x y = -1 ∨ cmpW x y = 0 ∨ cmpW x y = 1 := by
  have := cmpL_range x.2 y.2
  rcases cmpW_cases x y with h | h | ⟨_, h | h | h⟩ <;> omega
theorem cmpW_self (x : Wy) : cmpW x x = 0 := by
  have := cmpL_self x.2
  rcases cmpW_cases x x with h | h | ⟨_, h | h | h⟩ <;> omega
theorem cmpW_eq {x y : Wy} (h : cmpW x y = 0) : x = y := by
  rcases cmpW_cases x y with h1 | h1 | ⟨e, h1 | h1 | h1⟩
  · omega
  · omega
  · omega
  · omega
  · exact Prod.ext e (cmpL_eq _ _ (by omega))
theorem cmpW_neg (x y : Wy) : cmpW y x = - cmpW x y := by
  have := cmpL_neg x.2 y.2
  rcases cmpW_cases x y with h | h | ⟨_, h | h | h⟩ <;> rcases cmpW_cases y x with g | g | ⟨_, g | g | g⟩ <;> omega
theorem Le.refl (x : Wy) : Le x x := by unfold Le; rw [cmpW_self]; omega
theorem Le.trans {x y z : Wy} (h1 : Le x y) (h2 : Le y z) : Le x z := by
  unfold Le at *
  have := fun a b => (cmpL_trans x.2 y.2 z.2 a b).1
  rcases cmpW_cases x y with h | h | ⟨_, h | h | h⟩ <;> rcases cmpW_cases y z with g | g | ⟨_, g | g | g⟩ <;> rcases cmpW_cases x z with f | f | ⟨_, f | f | f⟩ <;> (try omega) <;> (try (have := this (by omega) (by omega); omega))
theorem Le.antisymm {x y : Wy} (h1 : Le x y) (h2 : Le y x) : x = y := by
  unfold Le at *
  have := cmpW_neg x y
  exact cmpW_eq (by omega)
theorem Le.total (x y : Wy) : Le x y ∨ Le y x := by
  unfold Le
  have := cmpW_neg x y
  omega
theorem le_nil (x : Wy) : Le (0, []) x := by
  unfold Le
  rcases cmpW_cases (0, []) x with h | h | ⟨_, h | h | h⟩ <;> simp only [List.length_nil] at h <;> (try omega)
  rw [List.eq_nil_of_length_eq_zero h.1.symm] at h
  rw [h.2]; simp [cmpL]
theorem not_le {x y : Wy} (h : ¬ Le x y) : cmpW y x < 0 := by
  unfold Le at h
  have := cmpW_neg x y
  omega
theorem Le.of_lt {x y : Wy} (h : cmpW x y < 0) : Le x y := by unfold Le; omega
/-- A link more: it keeps the order. -/
theorem Le.snoc {x y : Wy} (h : Le x y) (d k : Nat) : Le (x.1 + d, x.2 ++ [k]) (y.1 + d, y.2 ++ [k]) := by
  unfold Le at *
  have e := cmpL_snoc x.2 y.2 k
  rcases cmpW_cases x y with h1 | h1 | ⟨h0, h1 | h1 | h1⟩ <;> rcases cmpW_cases (x.1 + d, x.2 ++ [k]) (y.1 + d, y.2 ++ [k]) with g | g | ⟨g0, g | g | g⟩ <;> simp only [List.length_append, List.length_singleton] at g <;> (try omega)
/-- .. a way grows by it. -/
theorem lt_snoc (x : Wy) (d k : Nat) : cmpW x (x.1 + d, x.2 ++ [k]) = -1 := by
  rcases cmpW_cases x (x.1 + d, x.2 ++ [k]) with g | g | ⟨g0, g | g | g⟩ <;> simp only [List.length_append, List.length_singleton] at g <;> omega
theorem le_snoc (x : Wy) (d k : Nat) : Le x (x.1 + d, x.2 ++ [k]) := by unfold Le; rw [lt_snoc]; omega

/-- What is asked: for each vertex, the least way, or none. -/
def Best (ls : List Lk) (s t : Nat) : Option Wy → Prop
  | none => ∀ w, ¬ Walk ls s t w
  | some w => Walk ls s t w ∧ ∀ v, Walk ls s t v → Le w v
theorem Best.uniq {ls : List Lk} {s t : Nat} {a b : Option Wy} (ha : Best ls s t a) (hb : Best ls s t b) : a = b := by
  cases a with
  | none => cases b with
    | none => rfl
    | some w => exact absurd hb.1 (ha w)
  | some v => cases b with
    | none => exact absurd ha.1 (hb v)
    | some w => rw [Le.antisymm (ha.2 w hb.1) (hb.2 v ha.1)]

/-- What is known in the course of the search: the ways found, which of them are known to be the least; of vertex i, the links below j have been gone through. -/
structure Inv (ls : List Lk) (n s : Nat) (out : List (Option Wy)) (kn : List Bool) (r i j : Nat) : Prop where
  len : out.length = n
  lenk : kn.length = n
  walk : ∀ (v : Nat) (w : Wy), out[v]? = some (some w) → Walk ls s v w
  known : ∀ (v : Nat), kn[v]? = some true → ∃ w : Wy, out[v]? = some (some w) ∧ (∀ u, Walk ls s v u → Le w u) ∧ w.2.length + 1 ≤ r
  start : out[s]? = some (some (0, []))
  link : ∀ (u k t d : Nat), kn[u]? = some true → ls[k]? = some (u, t, d, true) → (u = i → k < j) → ∃ w x : Wy, out[u]? = some (some w) ∧ out[t]? = some (some x) ∧ Le x (w.1 + d, w.2 ++ [k])
  bound : ∀ (v : Nat) (w : Wy), out[v]? = some (some w) → w.2.length ≤ r
  count : kn.count true = r

theorem inv_start (ls : List Lk) (n s : Nat) (hs : s < n) : Inv ls n s ((List.replicate n none).set s (some (0, []))) (List.replicate n false) 0 0 ls.length := by
  refine ⟨by simp, by simp, fun v w hw => ?_, fun v hv => ?_, by rw [List.getElem?_set_self (by simpa using hs)], fun u k t d hu => ?_, fun v w hw => ?_, by simp [List.count_replicate]⟩
  · by_cases hv : s = v
    · subst hv
      rw [List.getElem?_set_self (by simpa using hs)] at hw
      cases hw; exact .nil
    · rw [List.getElem?_set_ne hv, List.getElem?_replicate] at hw
      split at hw <;> cases hw
  · rw [List.getElem?_replicate] at hv; split at hv <;> cases hv
  · rw [List.getElem?_replicate] at hu; split at hu <;> cases hu
  · by_cases hv : s = v
    · subst hv
      rw [List.getElem?_set_self (by simpa using hs)] at hw
      cases hw; simp
    · rw [List.getElem?_set_ne hv, List.getElem?_replicate] at hw
      split at hw <;> cases hw
/-- All links have been gone through: of no vertex any are left. -/
theorem Inv.all {ls : List Lk} {n s : Nat} {out : List (Option Wy)} {kn : List Bool} {r i : Nat} (h : Inv ls n s out kn r i ls.length) (i' : Nat) : Inv ls n s out kn r i' ls.length :=
  { h with link := fun u k t d hu hk _ => h.link u k t d hu hk (fun _ => (List.getElem?_eq_some_iff.1 hk).1) }
/-- A way to a vertex that is not known passes an open one. -/
theorem first_open {ls : List Lk} {n s : Nat} {out : List (Option Wy)} {kn : List Bool} {r i : Nat} (h : Inv ls n s out kn r i ls.length) (hls : ∀ (k u t d : Nat) (b : Bool), ls[k]? = some (u, t, d, b) → t < n) (hs : s < n) {v : Nat} {w : Wy} (hw : Walk ls s v w) :
    (kn[v]? = some true) ∨ ∃ (o : Nat) (x : Wy), kn[o]? = some false ∧ out[o]? = some (some x) ∧ Le x w := by
  have kcase : ∀ v : Nat, v < n → kn[v]? = some true ∨ kn[v]? = some false := fun v hv => by
    have hl : v < kn.length := by rw [h.lenk]; exact hv
    rw [List.getElem?_eq_getElem hl]
    cases kn[v] <;> simp
  induction hw with
  | nil =>
    rcases kcase s hs with hk | hk
    · exact .inl hk
    · exact .inr ⟨s, _, hk, h.start, Le.refl _⟩
  | @snoc u t k d w hw hk ih =>
    rcases ih with hu | ⟨o, x, h1, h2, h3⟩
    · rcases kcase t (hls k u t d true hk) with ht | ht
      · exact .inl ht
      · obtain ⟨a, x, h1, h2, h3⟩ := h.link u k t d hu hk (fun _ => (List.getElem?_eq_some_iff.1 hk).1)
        obtain ⟨b, h4, h5, _⟩ := h.known u hu
        rw [h1] at h4
        cases h4
        exact .inr ⟨t, x, ht, h2, h3.trans ((h5 w hw).snoc d k)⟩
    · exact .inr ⟨o, x, h1, h2, h3.trans (le_snoc w d k)⟩
/-- No vertex is open: the search is over. -/
theorem inv_done {ls : List Lk} {n s : Nat} {out : List (Option Wy)} {kn : List Bool} {r i : Nat} (h : Inv ls n s out kn r i ls.length) (hls : ∀ (k u t d : Nat) (b : Bool), ls[k]? = some (u, t, d, b) → t < n) (hs : s < n)
    (ho : ∀ (o : Nat) (x : Wy), kn[o]? = some false → out[o]? ≠ some (some x)) (v : Nat) (b : Option Wy) (hv : out[v]? = some b) : Best ls s v b ∧ ∀ w, b = some w → w.2.length + 1 ≤ n := by
  have hvn : v < n := by rw [← h.len]; exact (List.getElem?_eq_some_iff.1 hv).1
  have hr : r ≤ n := by
    have := h.count
    have h2 := List.count_le_length (a := true) (l := kn)
    rw [h.lenk] at h2; omega
  have hl : v < kn.length := by rw [h.lenk]; exact hvn
  have hk := List.getElem?_eq_getElem hl
  cases b with
  | none =>
    refine ⟨fun w hw => ?_, fun w e => by cases e⟩
    rcases first_open h hls hs hw with h1 | ⟨o, x, h1, h2, _⟩
    · obtain ⟨w', h2, _⟩ := h.known v h1
      rw [hv] at h2; cases h2
    · exact ho o x h1 h2
  | some w =>
    cases hkv : kn[v] with
    | false => rw [hkv] at hk; exact absurd hv (ho v w hk)
    | true =>
      rw [hkv] at hk
      obtain ⟨w', h2, h3, h4⟩ := h.known v hk
      rw [hv] at h2; cases h2
      exact ⟨⟨h.walk v w hv, h3⟩, fun x e => by cases e; omega⟩
theorem count_set : ∀ (l : List Bool) (i : Nat), l[i]? = some false → (l.set i true).count true = l.count true + 1
  | [], i, h => by simp at h
  | a :: l, 0, h => by simp at h; subst h; simp
  | a :: l, i + 1, h => by
    simp at h
    have := count_set l i h
    rw [List.set_cons_succ, List.count_cons, List.count_cons, this]
    omega
/-- The least open one is known. -/
theorem inv_pick {ls : List Lk} {n s : Nat} {out : List (Option Wy)} {kn : List Bool} {r i0 : Nat} (h : Inv ls n s out kn r i0 ls.length) (hls : ∀ (k u t d : Nat) (b : Bool), ls[k]? = some (u, t, d, b) → t < n) (hs : s < n)
    {i : Nat} {w : Wy} (hi : kn[i]? = some false) (hw : out[i]? = some (some w)) (hmin : ∀ (o : Nat) (x : Wy), kn[o]? = some false → out[o]? = some (some x) → Le w x) : Inv ls n s out (kn.set i true) (r + 1) i 0 := by
  have hil : i < kn.length := (List.getElem?_eq_some_iff.1 hi).1
  have kset : ∀ v : Nat, (kn.set i true)[v]? = some true → v ≠ i → kn[v]? = some true := fun v hv hne => by
    rwa [List.getElem?_set_ne (fun e => hne e.symm)] at hv
  refine ⟨h.len, by rw [List.length_set]; exact h.lenk, h.walk, fun v hv => ?_, h.start, fun u k t d hu hk hij => ?_, fun v x hx => Nat.le_succ_of_le (h.bound v x hx), by rw [count_set kn i hi, h.count]⟩
  · by_cases hvi : v = i
    · subst hvi
      refine ⟨w, hw, fun u hu => ?_, by have := h.bound v w hw; omega⟩
      rcases first_open h hls hs hu with h1 | ⟨o, x, h1, h2, h3⟩
      · rw [hi] at h1; cases h1
      · exact (hmin o x h1 h2).trans h3
    · obtain ⟨x, h1, h2, h3⟩ := h.known v (kset v hv hvi)
      exact ⟨x, h1, h2, by omega⟩
  · by_cases hui : u = i
    · exact absurd (hij hui) (Nat.not_lt_zero _)
    · exact h.link u k t d (kset u hu hui) hk (fun _ => (List.getElem?_eq_some_iff.1 hk).1)
/-- A link that does not begin there, or does not fit. -/
theorem inv_skip {ls : List Lk} {n s : Nat} {out : List (Option Wy)} {kn : List Bool} {r i j u t d : Nat} {b : Bool} (h : Inv ls n s out kn r i j) (hj : ls[j]? = some (u, t, d, b)) (hn : ¬ (u = i ∧ b = true)) : Inv ls n s out kn r i (j + 1) :=
  { h with link := fun u' k t' d' hu hk hij => h.link u' k t' d' hu hk (fun e => by
      have h1 := hij e
      by_cases hkj : k = j
      · subst hkj; rw [hj] at hk; cases hk; exact absurd ⟨e, rfl⟩ hn
      · omega) }
/-- A link to a vertex to which a way is found that is not greater. -/
theorem inv_keep {ls : List Lk} {n s : Nat} {out : List (Option Wy)} {kn : List Bool} {r i j t d : Nat} {w x : Wy} (h : Inv ls n s out kn r i j) (hj : ls[j]? = some (i, t, d, true)) (hw : out[i]? = some (some w)) (hx : out[t]? = some (some x)) (hle : Le x (w.1 + d, w.2 ++ [j])) : Inv ls n s out kn r i (j + 1) :=
  { h with link := fun u' k t' d' hu hk hij => (by
      by_cases hkj : k = j ∧ u' = i
      · obtain ⟨rfl, rfl⟩ := hkj
        rw [hj] at hk; cases hk
        exact ⟨w, x, hw, hx, hle⟩
      · exact h.link u' k t' d' hu hk (fun e => by
          have h1 := hij e
          have : k ≠ j := fun e2 => hkj ⟨e2, e⟩
          omega)) }
/-- .. to a known one. -/
theorem inv_known {ls : List Lk} {n s : Nat} {out : List (Option Wy)} {kn : List Bool} {r i j t d : Nat} {w : Wy} (h : Inv ls n s out kn r i j) (hj : ls[j]? = some (i, t, d, true)) (hw : out[i]? = some (some w)) (ht : kn[t]? = some true) : Inv ls n s out kn r i (j + 1) := by
  obtain ⟨x, hx, hmin, _⟩ := h.known t ht
  exact inv_keep h hj hw hx (hmin _ (.snoc (h.walk i w hw) hj))
/-- .. to one to which a greater way is found, or none. -/
theorem inv_set {ls : List Lk} {n s : Nat} {out : List (Option Wy)} {kn : List Bool} {r i j t d : Nat} {w : Wy} (h : Inv ls n s out kn r i j) (hj : ls[j]? = some (i, t, d, true)) (hw : out[i]? = some (some w)) (hi : kn[i]? = some true) (ht : kn[t]? = some false)
    (hlt : ∀ x, out[t]? = some (some x) → cmpW (w.1 + d, w.2 ++ [j]) x < 0) : Inv ls n s (out.set t (some (w.1 + d, w.2 ++ [j]))) kn r i (j + 1) := by
  have htl : t < out.length := by rw [h.len, ← h.lenk]; exact (List.getElem?_eq_some_iff.1 ht).1
  have hne : ∀ v : Nat, kn[v]? = some true → t ≠ v := fun v hv e => by subst e; rw [ht] at hv; cases hv
  have hget : ∀ v : Nat, t ≠ v → (out.set t (some (w.1 + d, w.2 ++ [j])))[v]? = out[v]? := fun v hv => List.getElem?_set_ne hv
  have hself : (out.set t (some (w.1 + d, w.2 ++ [j])))[t]? = some (some (w.1 + d, w.2 ++ [j])) := List.getElem?_set_self htl
  have hst : t ≠ s := fun e => by
    subst e
    have h1 := hlt _ h.start
    have h2 := le_nil (w.1 + d, w.2 ++ [j])
    unfold Le at h2
    have h3 := cmpW_neg (0, []) (w.1 + d, w.2 ++ [j])
    omega
  refine ⟨by rw [List.length_set]; exact h.len, h.lenk, fun v x hx => ?_, fun v hv => ?_, by rw [hget s hst]; exact h.start, fun u k t' d' hu hk hij => ?_, fun v x hx => ?_, h.count⟩
  · by_cases hv : t = v
    · subst hv; rw [hself] at hx; cases hx
      exact .snoc (h.walk i w hw) hj
    · rw [hget v hv] at hx; exact h.walk v x hx
  · rw [hget v (hne v hv)]; exact h.known v hv
  · rw [hget u (hne u hu)]
    by_cases hkj : k = j ∧ u = i
    · obtain ⟨rfl, rfl⟩ := hkj
      rw [hj] at hk; cases hk
      exact ⟨w, _, hw, hself, Le.refl _⟩
    · obtain ⟨a, x, h1, h2, h3⟩ := h.link u k t' d' hu hk (fun e => by
        have h1 := hij e
        have : k ≠ j := fun e2 => hkj ⟨e2, e⟩
        omega)
      by_cases hv : t = t'
      · subst hv
        exact ⟨a, _, h1, hself, (Le.of_lt (hlt x h2)).trans h3⟩
      · exact ⟨a, x, h1, by rw [hget t' hv]; exact h2, h3⟩
  · by_cases hv : t = v
    · subst hv; rw [hself] at hx; cases hx
      obtain ⟨w', h1, _, h3⟩ := h.known i hi
      rw [hw] at h1; cases h1
      simp only [List.length_append, List.length_singleton]; exact h3
    · rw [hget v hv] at hx; exact h.bound v x hx

/-- The reference's search: after r rounds, and of the next one the links below j. -/
structure BF (ls : List Lk) (n s : Nat) (out : List (Option Wy)) (r j : Nat) : Prop where
  len : out.length = n
  walk : ∀ (v : Nat) (w : Wy), out[v]? = some (some w) → Walk ls s v w
  short : ∀ (v : Nat) (w : Wy), Walk ls s v w → w.2.length ≤ r → ∃ x : Wy, out[v]? = some (some x) ∧ Le x w
  next : ∀ (u k t d : Nat) (w : Wy), k < j → ls[k]? = some (u, t, d, true) → Walk ls s u w → w.2.length ≤ r → ∃ x : Wy, out[t]? = some (some x) ∧ Le x (w.1 + d, w.2 ++ [k])
theorem bf_start (ls : List Lk) (n s : Nat) (hs : s < n) : BF ls n s ((List.replicate n none).set s (some (0, []))) 0 0 := by
  refine ⟨by simp, fun v w hw => ?_, fun v w hw hl => ?_, fun u k t d w hk => absurd hk (Nat.not_lt_zero _)⟩
  · by_cases hv : s = v
    · subst hv
      rw [List.getElem?_set_self (by simpa using hs)] at hw
      cases hw; exact .nil
    · rw [List.getElem?_set_ne hv, List.getElem?_replicate] at hw
      split at hw <;> cases hw
  · cases hw with
    | nil => exact ⟨_, by rw [List.getElem?_set_self (by simpa using hs)], Le.refl _⟩
    | snoc hw hk => simp at hl
theorem bf_next {ls : List Lk} {n s : Nat} {out : List (Option Wy)} {r : Nat} (h : BF ls n s out r ls.length) : BF ls n s out (r + 1) 0 := by
  refine ⟨h.len, h.walk, fun v w hw hl => ?_, fun u k t d w hk => absurd hk (Nat.not_lt_zero _)⟩
  cases hw with
  | nil => exact h.short _ _ .nil (Nat.zero_le _)
  | @snoc u t k d w hw hk =>
    simp only [List.length_append, List.length_singleton] at hl
    exact h.next u k _ d w (List.getElem?_eq_some_iff.1 hk).1 hk hw (by omega)
theorem bf_skip {ls : List Lk} {n s : Nat} {out : List (Option Wy)} {r j u t d : Nat} {b : Bool} (h : BF ls n s out r j) (hj : ls[j]? = some (u, t, d, b)) (hn : b = false ∨ out[u]? = some none) : BF ls n s out r (j + 1) :=
  { h with next := fun u' k t' d' w hk hk2 hw hl => (by
      by_cases hkj : k = j
      · subst hkj
        rw [hj] at hk2; cases hk2
        rcases hn with h1 | h1
        · cases h1
        · obtain ⟨x, h2, _⟩ := h.short u w hw hl
          rw [h1] at h2; cases h2
      · exact h.next u' k t' d' w (by omega) hk2 hw hl) }
theorem bf_keep {ls : List Lk} {n s : Nat} {out : List (Option Wy)} {r j u t d : Nat} {a x : Wy} (h : BF ls n s out r j) (hj : ls[j]? = some (u, t, d, true)) (ha : out[u]? = some (some a)) (hx : out[t]? = some (some x)) (hle : Le x (a.1 + d, a.2 ++ [j])) : BF ls n s out r (j + 1) :=
  { h with next := fun u' k t' d' w hk hk2 hw hl => (by
      by_cases hkj : k = j
      · subst hkj
        rw [hj] at hk2; cases hk2
        obtain ⟨y, h2, h3⟩ := h.short u w hw hl
        rw [ha] at h2; cases h2
        exact ⟨x, hx, hle.trans (h3.snoc d k)⟩
      · exact h.next u' k t' d' w (by omega) hk2 hw hl) }
theorem bf_set {ls : List Lk} {n s : Nat} {out : List (Option Wy)} {r j u t d : Nat} {a : Wy} (h : BF ls n s out r j) (hj : ls[j]? = some (u, t, d, true)) (ha : out[u]? = some (some a)) (ht : t < n) (hlt : ∀ x, out[t]? = some (some x) → Le (a.1 + d, a.2 ++ [j]) x) : BF ls n s (out.set t (some (a.1 + d, a.2 ++ [j]))) r (j + 1) := by
  have hself : (out.set t (some (a.1 + d, a.2 ++ [j])))[t]? = some (some (a.1 + d, a.2 ++ [j])) := List.getElem?_set_self (by rw [h.len]; exact ht)
  have up : ∀ (v : Nat) (x : Wy) (w : Wy), out[v]? = some (some x) → Le x w → ∃ y : Wy, (out.set t (some (a.1 + d, a.2 ++ [j])))[v]? = some (some y) ∧ Le y w := fun v x w hx hle => by
    by_cases hv : t = v
    · subst hv; exact ⟨_, hself, (hlt x hx).trans hle⟩
    · exact ⟨x, by rw [List.getElem?_set_ne hv]; exact hx, hle⟩
  refine ⟨by rw [List.length_set]; exact h.len, fun v x hx => ?_, fun v w hw hl => ?_, fun u' k t' d' w hk hk2 hw hl => ?_⟩
  · by_cases hv : t = v
    · subst hv; rw [hself] at hx; cases hx
      exact .snoc (h.walk u a ha) hj
    · rw [List.getElem?_set_ne hv] at hx; exact h.walk v x hx
  · obtain ⟨x, h1, h2⟩ := h.short v w hw hl
    exact up v x w h1 h2
  · by_cases hkj : k = j
    · subst hkj
      rw [hj] at hk2; cases hk2
      obtain ⟨y, h2, h3⟩ := h.short u w hw hl
      rw [ha] at h2; cases h2
      exact ⟨_, hself, h3.snoc d k⟩
    · obtain ⟨x, h1, h2⟩ := h.next u' k t' d' w (by omega) hk2 hw hl
      exact up t' x _ h1 h2
/-- Both searches end alike. -/
theorem bf_best {ls : List Lk} {n s : Nat} {out : List (Option Wy)} {v : Nat} {b c : Option Wy} (h : BF ls n s out n 0) (hb : Best ls s v b) (hl : ∀ w, b = some w → w.2.length + 1 ≤ n) (hc : out[v]? = some c) : c = b := by
  cases b with
  | none =>
    cases c with
    | none => rfl
    | some x => exact absurd (h.walk v x hc) (hb x)
  | some w =>
    obtain ⟨x, h1, h2⟩ := h.short v w hb.1 (by have := hl w rfl; omega)
    rw [hc] at h1; cases h1
    rw [Le.antisymm h2 (hb.2 x (h.walk v x hc))]

/-- Ways one behind the other. -/
theorem Walk.append {ls : List Lk} {s t v : Nat} {x y : Wy} (hx : Walk ls s t x) (hy : Walk ls t v y) : Walk ls s v (x.1 + y.1, x.2 ++ y.2) := by
  induction hy with
  | nil => simpa using hx
  | @snoc u t' k d w hw hk ih =>
    have := Walk.snoc ih hk
    rw [show x.1 + (w.1 + d) = x.1 + w.1 + d from by omega, show x.2 ++ (w.2 ++ [k]) = x.2 ++ w.2 ++ [k] from by rw [List.append_assoc]]
    exact this
/-- A way, cut anywhere. -/
theorem Walk.split {ls : List Lk} {s v : Nat} {w : Wy} (hw : Walk ls s v w) : ∀ k, k ≤ w.2.length → ∃ t c d, Walk ls s t (c, w.2.take k) ∧ Walk ls t v (d, w.2.drop k) ∧ c + d = w.1 := by
  induction hw with
  | nil => exact fun k _ => ⟨s, 0, 0, by simpa using .nil, by simpa using .nil, rfl⟩
  | @snoc u t j d w hw hk ih =>
    intro k hkl
    by_cases hk2 : k ≤ w.2.length
    · obtain ⟨t', c, e, h1, h2, h3⟩ := ih k hk2
      refine ⟨t', c, e + d, ?_, ?_, by simp only; omega⟩
      · rw [List.take_append_of_le_length hk2]; exact h1
      · rw [List.drop_append_of_le_length hk2]; exact .snoc h2 hk
    · simp only [List.length_append, List.length_singleton] at hkl
      have : k = (w.2 ++ [j]).length := by simp; omega
      subst this
      exact ⟨t, w.1 + d, 0, by rw [List.take_length]; exact .snoc hw hk, by rw [List.drop_length]; exact .nil, rfl⟩
theorem cmpL_tail : ∀ (a b c : List Nat), a.length = b.length → cmpL (a ++ c) (b ++ c) = cmpL a b
  | [], [], c, _ => by simp [cmpL_self, cmpL]
  | [], _ :: _, _, h => by simp at h
  | _ :: _, [], _, h => by simp at h
  | a :: as, b :: bs, c, h => by
    simp only [List.cons_append, cmpL]
    rw [cmpL_tail as bs c (by simpa using h)]
theorem cmpL_head : ∀ (p a b : List Nat), cmpL (p ++ a) (p ++ b) = cmpL a b
  | [], _, _ => rfl
  | x :: p, a, b => by simp [cmpL, cmpL_head p a b]
theorem cmpW_tail (x y z : Wy) : cmpW (x.1 + z.1, x.2 ++ z.2) (y.1 + z.1, y.2 ++ z.2) = cmpW x y := by
  have e := cmpL_tail x.2 y.2 z.2
  rcases cmpW_cases x y with h1 | h1 | ⟨h0, h1 | h1 | h1⟩ <;> rcases cmpW_cases (x.1 + z.1, x.2 ++ z.2) (y.1 + z.1, y.2 ++ z.2) with g | g | ⟨g0, g | g | g⟩ <;> simp only [List.length_append] at g <;> (try omega)
theorem cmpW_head (z x y : Wy) : cmpW (z.1 + x.1, z.2 ++ x.2) (z.1 + y.1, z.2 ++ y.2) = cmpW x y := by
  have e := cmpL_head z.2 x.2 y.2
  rcases cmpW_cases x y with h1 | h1 | ⟨h0, h1 | h1 | h1⟩ <;> rcases cmpW_cases (z.1 + x.1, z.2 ++ x.2) (z.1 + y.1, z.2 ++ y.2) with g | g | ⟨g0, g | g | g⟩ <;> simp only [List.length_append] at g <;> (try omega)
/-- The parts of a least way are least ways. -/
theorem Best.parts {ls : List Lk} {s v : Nat} {w : Wy} (h : Best ls s v (some w)) (k : Nat) (hk : k ≤ w.2.length) : ∃ t c d, Best ls s t (some (c, w.2.take k)) ∧ Best ls t v (some (d, w.2.drop k)) ∧ c + d = w.1 := by
  obtain ⟨t, c, d, h1, h2, h3⟩ := h.1.split k hk
  refine ⟨t, c, d, ⟨h1, fun x hx => ?_⟩, ⟨h2, fun x hx => ?_⟩, h3⟩
  · have := h.2 _ (hx.append h2)
    have e := cmpW_tail (c, w.2.take k) x (d, w.2.drop k)
    simp only [List.take_append_drop, h3] at e
    unfold Le at this ⊢
    rw [← e]; exact this
  · have := h.2 _ (h1.append hx)
    have e := cmpW_head (c, w.2.take k) (d, w.2.drop k) x
    simp only [List.take_append_drop, h3] at e
    unfold Le at this ⊢
    rw [← e]; exact this
/-- The least way to where one is. -/
theorem Best.self {ls : List Lk} {s : Nat} {b : Option Wy} (h : Best ls s s b) : b = some (0, []) := by
  cases b with
  | none => exact absurd .nil (h _)
  | some w => rw [Le.antisymm (h.2 _ .nil) (le_nil w)]
theorem Le.cost {x y : Wy} (h : Le x y) : x.1 ≤ y.1 := by
  unfold Le at h
  rcases cmpW_cases x y with g | g | ⟨g0, _⟩ <;> omega
/-- More links fit: a way stays a way. -/
theorem Walk.mono {ls ls' : List Lk} (h : ∀ (k u t d : Nat), ls[k]? = some (u, t, d, true) → ls'[k]? = some (u, t, d, true)) {s t : Nat} {w : Wy} (hw : Walk ls s t w) : Walk ls' s t w := by
  induction hw with
  | nil => exact .nil
  | snoc _ hk ih => exact .snoc ih (h _ _ _ _ hk)
end Go.Proofs.Ytgelchbbknckcaa.Gr
