/- Package net, plain: packets, their bytes, and what is read from bytes. -/
import Derived.Test.YteofgkdpknaapaaN02
namespace Go.Proofs.Yteofgkdpknaapaa
open Go.RowKit Go.Sort

/-- A signature under a key. -/
structure Ky where
  (k : Int) (s : Sg)
/-- A packet. -/
structure Pk where
  (kind who n : Int) (data : List UInt8) (proof : List Sum32) (body : List UInt8) (sigs : List Ky)
def pk0 : Pk := ⟨0, 0, 0, [], [], [], []⟩
def bytK (x : Ky) : List UInt8 := b8 x.k :: bytS x.s
def two (n : Nat) : List UInt8 := [UInt8.ofNat (n / 256), UInt8.ofNat n]
def lstB (b : List UInt8) (more : Nat) : List UInt8 := two b.length ++ (b ++ [UInt8.ofNat more])
def restB (p : Pk) : List UInt8 :=
  if p.kind = 2 then lstB p.body p.sigs.length ++ p.sigs.flatMap bytK
  else if p.kind = 4 then lstB p.data p.proof.length ++ p.proof.flatMap (·.1) else []
/-- The bytes of a packet. -/
def bytP (p : Pk) : List UInt8 := b8 p.kind :: b8 p.who :: b8 p.n :: restB p
def goodK (x : Ky) : Bool := decide (0 ≤ x.k ∧ x.k ≤ 15) && formedS x.s
/-- What is told of a release may be in a packet. -/
def signedP (body : List UInt8) (sigs : List Ky) : Bool := decide (body.length ≤ 4096 ∧ sigs.length ≤ 16) && sigs.all goodK
def noData (p : Pk) : Bool := p.data.isEmpty && p.proof.isEmpty
def noMeta (p : Pk) : Bool := p.body.isEmpty && p.sigs.isEmpty
/-- A packet is valid. -/
def validP (p : Pk) : Bool :=
  decide (0 ≤ p.who ∧ p.who < 8) &&
    (if p.kind = 1 then decide (p.n = 0) && noData p && noMeta p
    else if p.kind = 2 then decide (p.n = 0) && noData p && signedP p.body p.sigs
    else if p.kind = 3 then decide (0 ≤ p.n ∧ p.n < 256) && noData p && noMeta p
    else if p.kind = 4 then decide (0 ≤ p.n ∧ p.n < 256) && decide (p.data.length ≤ 1024 ∧ p.proof.length ≤ 8) && noMeta p
    else false)
/- Readers: what they read, and the bytes that are left; none: the bytes are damaged. -/
abbrev Rdr (α : Type) := Option (α × List UInt8)
def tak (n : Nat) (r : List UInt8) : Rdr (List UInt8) := if n ≤ r.length then some (r.take n, r.drop n) else none
def one : List UInt8 → Rdr Nat
  | [] => none
  | b :: r => some (b.toNat, r)
def lst (most : Nat) : List UInt8 → Rdr (List UInt8)
  | a :: b :: r => if most < 256 * a.toNat + b.toNat then none else tak (256 * a.toNat + b.toNat) r
  | _ => none
def szK (r : List UInt8) : Nat := 2146 + (if 2 ≤ r.length then 32 * (r.getD 1 0).toNat else 0)
def key1 : List UInt8 → Rdr Ky
  | [] => none
  | b :: r => if szK r ≤ r.length ∧ formP (r.take (szK r)) = true ∧ b.toNat < 16 then some (⟨(b.toNat : Int), (parS (r.take (szK r))).1⟩, r.drop (szK r)) else none
/-- A row of things that are read one after the other. -/
def many {α : Type} (f : List UInt8 → Rdr α) : Nat → List UInt8 → Rdr (List α)
  | 0, r => some ([], r)
  | n + 1, r => (many f n r).bind fun x => (f x.2).map fun y => (x.1 ++ [y.1], y.2)
def sum1 (r : List UInt8) : Rdr Sum32 := if 32 ≤ r.length then some (padS (r.take 32), r.drop 32) else none
def metaR (N : Nat) (r : List UInt8) : Rdr (List UInt8 × List Ky) :=
  (lst 4096 r).bind fun x => (one x.2).bind fun y => (many key1 y.1 y.2).bind fun z => if y.1 ≤ 16 ∧ N = 0 then some ((x.1, z.1), z.2) else none
def chunkR (r : List UInt8) : Rdr (List UInt8 × List Sum32) :=
  (lst 1024 r).bind fun x => (one x.2).bind fun y => if 8 < y.1 then none else (many sum1 y.1 y.2).bind fun z => some ((x.1, z.1), z.2)
/-- What is read behind the first bytes. -/
def tailR (k u n : Nat) (r : List UInt8) : Rdr Pk :=
  if k = 1 then if n = 0 then some (⟨1, (u : Int), 0, [], [], [], []⟩, r) else none
  else if k = 2 then (metaR n r).map fun x => (⟨2, (u : Int), (n : Int), [], [], x.1.1, x.1.2⟩, x.2)
  else if k = 3 then some (⟨3, (u : Int), (n : Int), [], [], [], []⟩, r)
  else if k = 4 then (chunkR r).map fun x => (⟨4, (u : Int), (n : Int), x.1.1, x.1.2, [], []⟩, x.2)
  else none
/-- The packet with some bytes. -/
def parP : List UInt8 → Option Pk
  | k :: u :: n :: r => if 8 ≤ u.toNat then none else (tailR k.toNat u.toNat n.toNat r).bind fun x => if x.2 = [] then some x.1 else none
  | _ => none

/- More bytes behind what is read are left. -/
theorem tak_app {n : Nat} {r x t : List UInt8} (h : tak n r = some (x, t)) (c : List UInt8) : tak n (r ++ c) = some (x, t ++ c) := by
  unfold tak at h ⊢
  split at h
  · rename_i hn
    rw [Option.some.injEq, Prod.mk.injEq] at h
    obtain ⟨rfl, rfl⟩ := h
    rw [if_pos (by rw [List.length_append]; omega), List.take_append_of_le_length hn, List.drop_append_of_le_length hn]
  · simp at h
theorem one_app {r t : List UInt8} {x : Nat} (h : one r = some (x, t)) (c : List UInt8) : one (r ++ c) = some (x, t ++ c) := by
  cases r with
  | nil => simp [one] at h
  | cons b r =>
    simp only [one, Option.some.injEq, Prod.mk.injEq] at h
    obtain ⟨rfl, rfl⟩ := h
    rfl
theorem lst_app {m : Nat} {r x t : List UInt8} (h : lst m r = some (x, t)) (c : List UInt8) : lst m (r ++ c) = some (x, t ++ c) := by
  rcases r with _ | ⟨a, _ | ⟨b, r⟩⟩
  · simp [lst] at h
  · simp [lst] at h
  · simp only [lst] at h
    simp only [List.cons_append, lst]
    split at h
    · simp at h
    · rename_i hm
      rw [if_neg hm]
      exact tak_app h c
theorem szK_app {r : List UInt8} (h : szK r ≤ r.length) (c : List UInt8) : szK (r ++ c) = szK r := by
  have h2 : 2 ≤ r.length := by unfold szK at h; omega
  unfold szK
  rw [if_pos h2, if_pos (by rw [List.length_append]; omega), List.getD_eq_getElem?_getD, List.getD_eq_getElem?_getD, List.getElem?_append_left (by omega)]
theorem key1_app {r t : List UInt8} {x : Ky} (h : key1 r = some (x, t)) (c : List UInt8) : key1 (r ++ c) = some (x, t ++ c) := by
  cases r with
  | nil => simp [key1] at h
  | cons b r =>
    simp only [key1] at h
    simp only [List.cons_append, key1]
    split at h
    · rename_i hh
      obtain ⟨h1, h2, h3⟩ := hh
      rw [Option.some.injEq, Prod.mk.injEq] at h
      obtain ⟨rfl, rfl⟩ := h
      rw [szK_app h1, List.take_append_of_le_length h1, List.drop_append_of_le_length h1, if_pos ⟨by rw [List.length_append]; omega, h2, h3⟩]
    · simp at h
theorem sum1_app {r t : List UInt8} {x : Sum32} (h : sum1 r = some (x, t)) (c : List UInt8) : sum1 (r ++ c) = some (x, t ++ c) := by
  unfold sum1 at h ⊢
  split at h
  · rename_i hn
    rw [Option.some.injEq, Prod.mk.injEq] at h
    obtain ⟨rfl, rfl⟩ := h
    rw [if_pos (by rw [List.length_append]; omega), List.take_append_of_le_length hn, List.drop_append_of_le_length hn]
  · simp at h
theorem many_app {α : Type} {f : List UInt8 → Rdr α} (hf : ∀ {r t : List UInt8} {x : α}, f r = some (x, t) → ∀ c, f (r ++ c) = some (x, t ++ c)) (c : List UInt8) : ∀ (n : Nat) {r t : List UInt8} {x : List α}, many f n r = some (x, t) → many f n (r ++ c) = some (x, t ++ c)
  | 0, r, t, x, h => by
    simp only [many, Option.some.injEq, Prod.mk.injEq] at h
    obtain ⟨rfl, rfl⟩ := h
    rfl
  | n + 1, r, t, x, h => by
    simp only [many] at h ⊢
    obtain ⟨⟨y, s⟩, h1, h2⟩ := Option.bind_eq_some_iff.1 h
    rw [many_app hf c n h1, Option.bind_some]
    obtain ⟨⟨z, q⟩, h3, h4⟩ := Option.map_eq_some_iff.1 h2
    dsimp only at h3 h4 ⊢
    rw [hf h3 c, Option.map_some]
    rw [Prod.mk.injEq] at h4
    rw [← h4.1, ← h4.2]
theorem metaR_app {N : Nat} {r t : List UInt8} {x : List UInt8 × List Ky} (h : metaR N r = some (x, t)) (c : List UInt8) : metaR N (r ++ c) = some (x, t ++ c) := by
  unfold metaR at h ⊢
  obtain ⟨⟨a, r1⟩, h1, h⟩ := Option.bind_eq_some_iff.1 h
  obtain ⟨⟨b, r2⟩, h2, h⟩ := Option.bind_eq_some_iff.1 h
  obtain ⟨⟨d, r3⟩, h3, h⟩ := Option.bind_eq_some_iff.1 h
  dsimp only at h h2 h3
  rw [lst_app h1 c, Option.bind_some, one_app h2 c, Option.bind_some, many_app (fun h c => key1_app h c) c _ h3, Option.bind_some]
  dsimp only
  split at h
  · rename_i hh
    rw [if_pos hh]
    rw [Option.some.injEq, Prod.mk.injEq] at h
    rw [← h.1, ← h.2]
  · simp at h
theorem chunkR_app {r t : List UInt8} {x : List UInt8 × List Sum32} (h : chunkR r = some (x, t)) (c : List UInt8) : chunkR (r ++ c) = some (x, t ++ c) := by
  unfold chunkR at h ⊢
  obtain ⟨⟨a, r1⟩, h1, h⟩ := Option.bind_eq_some_iff.1 h
  obtain ⟨⟨b, r2⟩, h2, h⟩ := Option.bind_eq_some_iff.1 h
  dsimp only at h h2
  rw [lst_app h1 c, Option.bind_some, one_app h2 c, Option.bind_some]
  dsimp only
  split at h
  · simp at h
  · rename_i hh
    rw [if_neg hh]
    obtain ⟨⟨d, r3⟩, h3, h⟩ := Option.bind_eq_some_iff.1 h
    rw [many_app (fun h c => sum1_app h c) c _ h3, Option.bind_some]
    dsimp only at h ⊢
    rw [Option.some.injEq, Prod.mk.injEq] at h
    rw [← h.1, ← h.2]
theorem tailR_app {k u n : Nat} {r t : List UInt8} {x : Pk} (h : tailR k u n r = some (x, t)) (c : List UInt8) : tailR k u n (r ++ c) = some (x, t ++ c) := by
  unfold tailR at h ⊢
  split at h
  · rename_i h1
    rw [if_pos h1]
    split at h
    · rename_i h2
      rw [if_pos h2]
      rw [Option.some.injEq, Prod.mk.injEq] at h
      rw [← h.1, ← h.2]
    · simp at h
  · rename_i h1
    rw [if_neg h1]
    split at h
    · rename_i h2
      rw [if_pos h2]
      obtain ⟨⟨d, r3⟩, h3, h⟩ := Option.map_eq_some_iff.1 h
      rw [metaR_app h3 c, Option.map_some]
      rw [Prod.mk.injEq] at h
      rw [← h.1, ← h.2]
    · rename_i h2
      rw [if_neg h2]
      split at h
      · rename_i h4
        rw [if_pos h4]
        rw [Option.some.injEq, Prod.mk.injEq] at h
        rw [← h.1, ← h.2]
      · rename_i h4
        rw [if_neg h4]
        split at h
        · rename_i h5
          rw [if_pos h5]
          obtain ⟨⟨d, r3⟩, h3, h⟩ := Option.map_eq_some_iff.1 h
          rw [chunkR_app h3 c, Option.map_some]
          rw [Prod.mk.injEq] at h
          rw [← h.1, ← h.2]
        · simp at h
/-- With more bytes it is refused. -/
theorem parP_more {b c : List UInt8} {p : Pk} (h : parP b = some p) (hc : c ≠ []) : parP (b ++ c) = none := by
  rcases b with _ | ⟨k, _ | ⟨u, _ | ⟨n, r⟩⟩⟩
  · simp [parP] at h
  · simp [parP] at h
  · simp [parP] at h
  · simp only [parP] at h
    simp only [List.cons_append, parP]
    split at h
    · simp at h
    · rename_i hu
      rw [if_neg hu]
      obtain ⟨⟨d, r3⟩, h3, h⟩ := Option.bind_eq_some_iff.1 h
      dsimp only at h
      split at h
      · rename_i he
        subst he
        rw [tailR_app h3 c, Option.bind_some]
        dsimp only
        rw [List.nil_append, if_neg hc]
      · simp at h
/-- With a byte less it is refused. -/
theorem parP_less {b : List UInt8} {p : Pk} (h : parP b = some p) (hb : b ≠ []) : parP (b.take (b.length - 1)) = none := by
  cases hq : parP (b.take (b.length - 1)) with
  | none => rfl
  | some q =>
    have h1 := parP_more hq (c := b.drop (b.length - 1)) (by
      intro h0
      have := congrArg List.length h0
      have hl : 0 < b.length := List.length_pos_iff.2 hb
      rw [List.length_drop, List.length_nil] at this
      omega)
    rw [List.take_append_drop, h] at h1
    simp at h1
end Go.Proofs.Yteofgkdpknaapaa
