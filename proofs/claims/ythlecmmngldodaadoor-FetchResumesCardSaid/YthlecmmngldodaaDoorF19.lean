/- What is taken of the right chunks. -/
import Derived.Test.YthlecmmngldodaaDoorF17
namespace Go.Proofs.YthlecmmngldodaaDoor
open Go.RowKit Go.Sort

/-- Each place is empty, or holds the right chunk. -/
def Goodh (X : List UInt8) (h : List (List UInt8)) : Prop := h.length = (X.length + 1023) / 1024 ∧ ∀ (j : Nat) (x : List UInt8), h[j]? = some x → x = [] ∨ x = cutAt X j
theorem good_start (X : List UInt8) : Goodh X (List.replicate ((X.length + 1023) / 1024) []) := by
  refine ⟨by simp, fun j x hx => ?_⟩
  rw [List.getElem?_replicate] at hx
  split at hx
  · cases hx; exact .inl rfl
  · cases hx
theorem root_cut (X : List UInt8) (h0 : 0 < X.length) : root (cutL X) = rootL ((cutL X).map leafS) := by
  cases hc : cutL X with
  | nil => have := cutL_len X; rw [hc] at this; simp at this; omega
  | cons a t => rfl
theorem chk_cut (X : List UInt8) {k : Nat} (hk : k < (X.length + 1023) / 1024) : chkL ((X.length + 1023) / 1024) k (leafS (cutAt X k)) (proofL ((cutL X).map leafS) k) = some (root (cutL X)) := by
  have hl : ((cutL X).map leafS).length = (X.length + 1023) / 1024 := by rw [List.length_map, cutL_len]
  have := chk_proof _ ((cutL X).map leafS) k (Nat.le_refl _) (by rw [hl]; exact hk)
  rw [hl, List.getD_eq_getElem?_getD, List.getElem?_map, cutL_get X hk] at this
  rw [root_cut X (by omega)]
  exact this
theorem take_right (X : List UInt8) {h : List (List UInt8)} (hg : Goodh X h) {k : Nat} (hk : k < (X.length + 1023) / 1024) : takeE (root (cutL X)) h (k : Int) (cutAt X k) (proofL ((cutL X).map leafS) k) = 0 := by
  rw [takeE_ok (by rw [hg.1]; exact hk) (by rw [hg.1]; exact cut_proper X hk), hg.1, chk_cut X hk, if_pos rfl]
theorem cutAt_ne (X : List UInt8) {k : Nat} (hk : k < (X.length + 1023) / 1024) : cutAt X k ≠ [] := by
  intro e
  have := cutAt_len X k
  rw [e] at this
  simp at this
  omega
/-- What is there behind the right chunk k. -/
theorem take_step (X : List UInt8) {h : List (List UInt8)} (hg : Goodh X h) {k : Nat} (hk : k < (X.length + 1023) / 1024) :
    Goodh X (takeH (root (cutL X)) h (k : Int) (cutAt X k) (proofL ((cutL X).map leafS) k)) ∧ (takeH (root (cutL X)) h (k : Int) (cutAt X k) (proofL ((cutL X).map leafS) k))[k]? = some (cutAt X k) ∧
      ∀ j, h[j]? = some (cutAt X j) → (takeH (root (cutL X)) h (k : Int) (cutAt X k) (proofL ((cutL X).map leafS) k))[j]? = some (cutAt X j) := by
  have he := take_right X hg hk
  have hkh : k < h.length := by rw [hg.1]; exact hk
  unfold takeH
  rw [Int.toNat_natCast]
  by_cases hem : (h.getD k []).isEmpty = true
  · rw [if_pos ⟨he, hem⟩]
    refine ⟨⟨by rw [List.length_set]; exact hg.1, fun j x hx => ?_⟩, by rw [List.getElem?_set_self hkh], fun j hj => ?_⟩
    · by_cases hkj : k = j
      · subst hkj
        rw [List.getElem?_set_self hkh] at hx
        cases hx; exact .inr rfl
      · rw [List.getElem?_set_ne hkj] at hx
        exact hg.2 j x hx
    · by_cases hkj : k = j
      · subst hkj; rw [List.getElem?_set_self hkh]
      · rw [List.getElem?_set_ne hkj]; exact hj
  · rw [if_neg (fun q => hem q.2)]
    refine ⟨hg, ?_, fun j hj => hj⟩
    have hx := List.getElem?_eq_getElem hkh
    rcases hg.2 k _ hx with e | e
    · rw [List.getD_eq_getElem?_getD, hx, e] at hem
      exact absurd rfl hem
    · rw [hx, e]
/-- All are there. -/
theorem all_there (X : List UInt8) {h : List (List UInt8)} (hg : Goodh X h) (ha : ∀ j, j < (X.length + 1023) / 1024 → h[j]? = some (cutAt X j)) : h = cutL X := by
  apply List.ext_getElem?
  intro j
  by_cases hj : j < (X.length + 1023) / 1024
  · rw [ha j hj, cutL_get X hj]
  · rw [List.getElem?_eq_none (by rw [hg.1]; omega), List.getElem?_eq_none (by rw [cutL_len]; omega)]
theorem allB_cut (X : List UInt8) : allB (cutL X) = true := by
  unfold allB
  rw [List.all_eq_true]
  intro x hx
  obtain ⟨k, hk, rfl⟩ := List.mem_iff_getElem.1 hx
  rw [cutL_len] at hk
  have h1 := cutL_get X hk
  rw [List.getElem?_eq_getElem (by rw [cutL_len]; exact hk)] at h1
  rw [Option.some.inj h1]
  have := cutAt_ne X hk
  cases hc : cutAt X k with
  | nil => exact absurd hc this
  | cons a t => rfl
theorem doneE_cut (X : List UInt8) : doneE (cutL X) = 0 := by unfold doneE; rw [allB_cut]; rfl
theorem doneL_cut (X : List UInt8) : doneL (cutL X) = X := by unfold doneL; rw [allB_cut]; exact cutL_all X
theorem TLst.setRow {w : World} {A : Option Addr} {n g : Nat} {cs : List (List UInt8)} {old cells : Array Value} (h : TLst w A n cs) (hg : Blk w g 35 old) : TLst (w.setRow g cells) A n cs :=
  h.grown ((KeptIn.refl (fun k => k ≠ g) w).setRow (g := g) (fun h => h rfl) cells).grownBut (fun g' e => by cases e; exact ⟨_, hg⟩) (by decide) (by decide)
theorem tlst_empty {w : World} {g k : Nat} (h : Blk w g 22 (List.replicate k (Value.slice none 0 0)).toArray) (hk : k ≤ 9223372036854775807) : TLst w (some ⟨g, 0, none⟩) k (List.replicate k []) := by
  refine ⟨List.replicate k ⟨none, 0, 0⟩, ⟨?_, fun _ b off e => by cases e; exact ⟨_, h⟩⟩, by simp, fun j v c hv hc => ?_⟩
  · have := Blk.rd (xs := List.replicate k (Value.slice none 0 0)) h (by simpa using hk)
    rw [List.length_replicate] at this
    rw [List.map_replicate]
    exact this
  · rw [List.getElem?_replicate] at hv hc
    split at hv
    · rename_i hj
      rw [if_pos hj] at hc
      cases hv; cases hc
      exact ⟨⟨Rd.nil _ _ _, fun h => absurd h (Nat.lt_irrefl 0)⟩, Nat.le_refl _⟩
    · cases hv
theorem flat_cut_le (X : List UInt8) {h : List (List UInt8)} (hg : Goodh X h) : h.flatten.length ≤ 1024 * ((X.length + 1023) / 1024) := by
  have key : ∀ l : List (List UInt8), (∀ x ∈ l, x.length ≤ 1024) → l.flatten.length ≤ 1024 * l.length := by
    intro l
    induction l with
    | nil => intro _; simp
    | cons a t ih =>
      intro hx
      have h1 := hx a (by simp)
      have h2 := ih fun x hm => hx x (by simp [hm])
      rw [List.flatten_cons, List.length_append, List.length_cons]
      omega
  have := key h fun x hm => by
    obtain ⟨j, hj, rfl⟩ := List.mem_iff_getElem.1 hm
    rcases hg.2 j _ (List.getElem?_eq_getElem hj) with e | e
    · rw [e]; simp
    · rw [e, cutAt_len]; omega
  rwa [hg.1] at this
end Go.Proofs.YthlecmmngldodaaDoor
