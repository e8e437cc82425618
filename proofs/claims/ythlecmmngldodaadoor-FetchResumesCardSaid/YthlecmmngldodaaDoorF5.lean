/- slices.Clone of lists of chunks; what Take answers. -/
import Derived.Test.YthlecmmngldodaaDoorF4
import Derived.Test.YthlecmmngldodaaDoorH10
namespace Go.Proofs.YthlecmmngldodaaDoor
open Go.RowKit Go.Sort

theorem slV_one (vs : List Sl) : ∀ u ∈ vs.map slV, u.oneCell' = true := fun u hu => by obtain ⟨s, _, rfl⟩ := List.mem_map.1 hu; rfl
set_option maxHeartbeats 1000000 in
/-- slices.Clone of a list of slices. -/
theorem CloneL_any (A : Option Addr) (len cap : Nat) (vs : List Sl) (w : World) (hr : Rd w 1 A len (vs.map slV)) (hlen : len ≤ 1000000) :
    Calls Tryd.prog 42 #[.slice A len cap] w fun e w' => ∃ v, e = .returned v ∧ App w' w.heap.size 22 v len (vs.map slV) ∧ Below w.heap.size w w' := by
  obtain ⟨i0, hi0, hz0, hz1, hz2⟩ := info_parts info22
  have hl := hr.len1
  have hE : ∀ W, (binOp .eql 27 (.slice A len cap) (.slice none 0 0)).run Tryd.prog W = .ok (.bool (A.isNone)) W := fun W => Lib.run_eql_slice_nil W 27 22 _ _ _ _ _ Tryd.underlying27
  have h1 := slV_one vs
  go_enter Tryd.func42, Tryd.ntmps42
  cases A with
  | none =>
    have h0 : len = 0 := by
      rcases Nat.eq_zero_or_pos len with h | h
      · exact h
      · obtain ⟨b, off, e, _⟩ := hr.2.2 h
        cases e
    subst h0
    obtain rfl : vs = [] := List.eq_nil_of_length_eq_zero hl
    go_wp2_with fail
    go_ret
    exact ⟨_, rfl, .inr (World.ownsRow_nil _ _ _ _), Below.refl _ _⟩
  | some ad =>
    have Hr := Lib.hid hr
    clear hr
    go_wp2_with (at_builtin; go_loud (refine wpList_app rfl (.tmp 5) (.tmp 6) 27 rfl 22 i0 (.slice none 0 0) 24 Tryd.underlying27 hi0 hz0 hz1 hz2 rfl w.heap.size (by simp) _ 0 [] rfl (.inl ⟨rfl, rfl, _, rfl⟩) (some ad) len cap (vs.map slV) rfl (Hr.out.alloc _) h1 (by unfold maxLen; omega) (by omega) ?_; intro v' w1 happ hb1))
    go_ret
    exact ⟨_, rfl, by simpa using happ, ((Below.refl _ _).alloc (Nat.le_refl _) _).trans hb1⟩

/-- The code of an answer to a chunk. -/
def takeE (tr : Sum32) (h : List (List UInt8)) (i : Int) (d : List UInt8) (p : List Sum32) : Int :=
  if i < 0 ∨ (h.length : Int) ≤ i ∨ properB d.length i h.length = false then 280
  else if chkL h.length i.toNat (leafS d) p = some tr then 0 else 150
/-- The chunks behind it. -/
def takeH (tr : Sum32) (h : List (List UInt8)) (i : Int) (d : List UInt8) (p : List Sum32) : List (List UInt8) :=
  if takeE tr h i d p = 0 ∧ (h.getD i.toNat []).isEmpty = true then h.set i.toNat d else h

theorem lst_set {w : World} {g n c i : Nat} {vs : List Sl} {h : List (List UInt8)} {base : Nat} {d : List UInt8} {v : Sl} {t : TypeId} (ht : t ≠ 5) (hrow : w.ownsRow base t 1 (.slice (some ⟨g, 0, none⟩) n c) n (vs.map slV)) (hl : h.length = n)
    (hel : ∀ (k : Nat) (u : Sl) (x : List UInt8), vs[k]? = some u → h[k]? = some x → Rd w 1 u.a u.n (x.map byteV) ∧ u.n ≤ u.c) (hk : ∀ (k : Nat) (u : Sl), vs[k]? = some u → ∀ b off, 0 < u.n → u.a = some ⟨b, off, none⟩ → b ≠ g) (hd : TRd w 5 1 v.a v.n (d.map byteV)) (hc : v.n ≤ v.c) :
    Lst (w.setCell ⟨g, i, none⟩ (slV v)) (some ⟨g, 0, none⟩) n (h.set i d) := by
  obtain ⟨cur, hcur⟩ := ownsRow_blk hrow
  have h1 := ownsRow_set hrow (g := g) rfl i (slV v)
  rw [← List.map_set] at h1
  have hK := (KeptIn.refl (fun k => k ≠ g) w).setAt (p := ⟨g, i, none⟩) (fun h => h rfl) (slV v)
  refine ⟨vs.set i v, Rd.of_own h1, by rw [List.length_set]; exact hl, fun k u x hu hx => ?_⟩
  by_cases hki : i = k
  · subst hki
    rw [List.getElem?_set_self (by have := (List.getElem?_eq_some_iff.1 hu).1; simpa using this)] at hu
    rw [List.getElem?_set_self (by have := (List.getElem?_eq_some_iff.1 hx).1; simpa using this)] at hx
    cases hu; cases hx
    exact ⟨(hd.kept hcur ht hK).1, hc⟩
  · rw [List.getElem?_set_ne hki] at hu hx
    exact ⟨(hel k u x hu hx).1.keptIn hK (fun b off hn e => hk k u hu b off hn e), (hel k u x hu hx).2⟩
end Go.Proofs.YthlecmmngldodaaDoor
