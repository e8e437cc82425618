/- Package sign, what is plain: chains, digits, keys, signatures. -/
import Derived.Test.YtfdhiilhjfbehaaDoorS0
namespace Go.Proofs.YtfdhiilhjfbehaaDoor
open Go.RowKit Go.Sort

/-- The value of a chain after some more steps. -/
def stS (x : Sum32) : Nat → Sum32
  | 0 => x
  | n + 1 => shaS (3 :: (stS x n).1)
theorem stS_add (x : Sum32) (a : Nat) : ∀ b, stS (stS x a) b = stS x (a + b)
  | 0 => rfl
  | b + 1 => by show shaS (3 :: (stS (stS x a) b).1) = shaS (3 :: (stS x (a + b)).1); rw [stS_add x a b]
def startS (seed : Sum32) (i c : UInt8) : Sum32 := shaS (2 :: seed.1 ++ [i, c])
/-- The chunk of a key, up to a chain. -/
def chunkK (seed : Sum32) (i : UInt8) : Nat → List UInt8
  | 0 => []
  | k + 1 => chunkK seed i k ++ (stS (startS seed i (UInt8.ofNat k)) 15).1
def chunkS (seed : Sum32) (i : UInt8) : List UInt8 := chunkK seed i 67
theorem chunkK_len (seed : Sum32) (i : UInt8) : ∀ k, (chunkK seed i k).length = 32 * k
  | 0 => rfl
  | k + 1 => by rw [chunkK, List.length_append, chunkK_len seed i k, (stS _ 15).2]; omega
def keysS (seed : Sum32) (n : Nat) : List (List UInt8) := (List.range n).map fun i => chunkS seed (UInt8.ofNat i)
theorem keysS_len (seed : Sum32) (n : Nat) : (keysS seed n).length = n := by simp [keysS]
theorem keysS_succ (seed : Sum32) (n : Nat) : keysS seed (n + 1) = keysS seed n ++ [chunkS seed (UInt8.ofNat n)] := by simp [keysS, List.range_succ]
theorem keysS_at (seed : Sum32) {n i : Nat} (h : i < n) : (keysS seed n)[i]? = some (chunkS seed (UInt8.ofNat i)) := by
  simp [keysS, h]
/-- The two digits of a byte. -/
def two_ (b : UInt8) : List Nat := [b.toNat / 16, b.toNat % 16]
def lack (b : UInt8) : Nat := 30 - b.toNat / 16 - b.toNat % 16
def lackL (bs : List UInt8) : Nat := (bs.map lack).foldl (· + ·) 0
def digB (bs : List UInt8) : List Nat := bs.flatMap two_ ++ [lackL bs / 256, lackL bs / 16 % 16, lackL bs % 16]
def digS (body : List UInt8) : List Nat := digB (sha (4 :: body))
theorem lackL_snoc (bs : List UInt8) (b : UInt8) : lackL (bs ++ [b]) = lackL bs + lack b := by simp [lackL]
theorem lack_le (b : UInt8) : lack b ≤ 30 := by unfold lack; omega
theorem lackL_le : ∀ k (bs : List UInt8), bs.length ≤ k → lackL bs ≤ 30 * k
  | 0, bs, h => by
    have : bs = [] := List.eq_nil_of_length_eq_zero (by omega)
    rw [this]; exact Nat.zero_le _
  | k + 1, bs, h => by
    rcases List.eq_nil_or_concat bs with rfl | ⟨l, b, rfl⟩
    · exact Nat.zero_le _
    · rw [List.concat_eq_append, lackL_snoc]
      have := lackL_le k l (by simp at h; omega)
      have := lack_le b
      omega
theorem two_len : ∀ (bs : List UInt8), (bs.flatMap two_).length = 2 * bs.length
  | [] => rfl
  | b :: bs => by rw [List.flatMap_cons, List.length_append, two_len bs]; simp [two_]; omega
theorem digB_len (bs : List UInt8) (h : bs.length = 32) : (digB bs).length = 67 := by
  unfold digB; rw [List.length_append, two_len, h]; rfl
theorem digS_len (body : List UInt8) : (digS body).length = 67 := digB_len _ (sha_length _)
theorem digB_le (bs : List UInt8) (h : bs.length = 32) : ∀ d ∈ digB bs, d ≤ 15 := by
  intro d hd
  unfold digB at hd
  rw [List.mem_append] at hd
  rcases hd with hd | hd
  · obtain ⟨b, _, hb⟩ := List.mem_flatMap.1 hd
    have := b.toNat_lt
    simp only [two_, List.mem_cons, List.not_mem_nil, or_false] at hb
    rcases hb with rfl | rfl <;> omega
  · have := lackL_le 32 bs (by omega)
    simp only [List.mem_cons, List.not_mem_nil, or_false] at hd
    rcases hd with rfl | rfl | rfl <;> omega
theorem digS_le (body : List UInt8) : ∀ d ∈ digS body, d ≤ 15 := digB_le _ (sha_length _)
theorem digS_at {body : List UInt8} {c : Nat} (h : c < 67) : ∃ d, (digS body)[c]? = some d ∧ d ≤ 15 := by
  have hl : c < (digS body).length := by rw [digS_len]; exact h
  exact ⟨_, List.getElem?_eq_getElem hl, digS_le body _ (List.getElem_mem hl)⟩
/-- The chains of a signature. -/
def chainK (seed : Sum32) (i : UInt8) (ds : List Nat) : Nat → List Sum32
  | 0 => []
  | k + 1 => chainK seed i ds k ++ [stS (startS seed i (UInt8.ofNat k)) (ds.getD k 0)]
theorem chainK_len (seed : Sum32) (i : UInt8) (ds : List Nat) : ∀ k, (chainK seed i ds k).length = k
  | 0 => rfl
  | k + 1 => by rw [chainK, List.length_append, chainK_len seed i ds k]; rfl
theorem chainK_at (seed : Sum32) (i : UInt8) (ds : List Nat) {c : Nat} : ∀ {k}, c < k → (chainK seed i ds k)[c]? = some (stS (startS seed i (UInt8.ofNat c)) (ds.getD c 0))
  | 0, h => absurd h (Nat.not_lt_zero _)
  | k + 1, h => by
    rw [chainK]
    by_cases e : c < k
    · rw [List.getElem?_append_left (by rw [chainK_len]; exact e), chainK_at seed i ds e]
    · have : c = k := by omega
      subst this
      rw [List.getElem?_append_right (by rw [chainK_len]; exact Nat.le_refl _), chainK_len, Nat.sub_self]
      rfl
/-- A signature, a secret. -/
structure Sg where
  (i : Int) (ch pa : List Sum32)
structure Sc where
  (s : Sum32) (h n : Int)
def validS (k : Sc) : Bool := decide (0 ≤ k.h ∧ k.h ≤ 4 ∧ 0 ≤ k.n ∧ k.n ≤ 2 ^ k.h.toNat)
def formedS (s : Sg) : Bool := decide (s.ch.length = 67 ∧ s.pa.length ≤ 4 ∧ 0 ≤ s.i ∧ s.i < 2 ^ s.pa.length)
def pubS (k : Sc) : Sum32 × Int := if validS k = true then (root (keysS k.s (2 ^ k.h.toNat)), 0) else (z32, 161)
def sg0 : Sg := ⟨0, [], []⟩
def sc0 : Sc := ⟨z32, 0, 0⟩
/-- What Sign answers. -/
def signS (k : Sc) (body : List UInt8) : Sg × Sc × Int :=
  if validS k = true then
    if k.n = 2 ^ k.h.toNat then (sg0, sc0, 160)
    else (⟨k.n, chainK k.s (UInt8.ofNat k.n.toNat) (digS body) 67, proofL ((keysS k.s (2 ^ k.h.toNat)).map leafS) k.n.toNat⟩, ⟨k.s, k.h, k.n + 1⟩, 0)
  else (sg0, sc0, 161)
/-- The chunk to which chains lead. -/
def endK (ds : List Nat) (ch : List Sum32) : Nat → List UInt8
  | 0 => []
  | k + 1 => endK ds ch k ++ (stS (ch.getD k z32) (15 - ds.getD k 0)).1
theorem endK_len (ds : List Nat) (ch : List Sum32) : ∀ k, (endK ds ch k).length = 32 * k
  | 0 => rfl
  | k + 1 => by rw [endK, List.length_append, endK_len ds ch k, (stS _ _).2]; omega
def endS (body : List UInt8) (s : Sg) : List UInt8 := endK (digS body) s.ch 67
def verS (pub : Sum32) (body : List UInt8) (s : Sg) : Bool :=
  if formedS s = true then decide (chkL (2 ^ s.pa.length) s.i.toNat (leafS (endS body s)) s.pa = some pub) else false
theorem end_chain (seed : Sum32) (i : UInt8) (ds : List Nat) (N : Nat) (hds : ∀ c, c < N → ∃ d, ds[c]? = some d ∧ d ≤ 15) : ∀ k, k ≤ N → endK ds (chainK seed i ds N) k = chunkK seed i k
  | 0, _ => rfl
  | k + 1, h => by
    have hk : k < N := h
    obtain ⟨d, hd, hl⟩ := hds k hk
    have e1 : (chainK seed i ds N).getD k z32 = stS (startS seed i (UInt8.ofNat k)) d := by
      rw [List.getD_eq_getElem?_getD, chainK_at seed i ds hk, Option.getD_some, List.getD_eq_getElem?_getD, hd]; rfl
    have e2 : ds.getD k 0 = d := by rw [List.getD_eq_getElem?_getD, hd]; rfl
    rw [endK, chunkK, end_chain seed i ds N hds k (by omega), e1, e2, stS_add, show d + (15 - d) = 15 by omega]
theorem endS_sign (s : Sum32) (body : List UInt8) (i : UInt8) (p : List Sum32) (j : Int) : endS body ⟨j, chainK s i (digS body) 67, p⟩ = chunkS s i := end_chain s i (digS body) 67 (fun _ h => digS_at h) 67 (Nat.le_refl _)
theorem proofL_exact : ∀ (k : Nat) (xs : List Sum32) (i : Nat), xs.length = 2 ^ k → i < xs.length → (proofL xs i).length = k
  | 0, xs, i, h, _ => by rw [proofL_one xs i (by omega)]; rfl
  | k + 1, xs, i, h, hi => by
    rw [Nat.pow_succ] at h
    have h1 : 1 < xs.length := by have := Nat.one_le_two_pow (n := k); omega
    have hx := xor1_cases i
    have h2 : i ^^^ 1 < xs.length := by split at hx <;> omega
    rw [proofL_up xs i h1, if_pos h2, List.length_append, proofL_exact k (upL xs) (i / 2) (by rw [upL_length]; omega) (by rw [upL_length]; omega)]
    simp; omega
theorem root_keys {cs : List (List UInt8)} (h : cs ≠ []) : root cs = rootL (cs.map leafS) := by
  cases cs with
  | nil => exact absurd rfl h
  | cons c cs => rfl
theorem getD_leaf {cs : List (List UInt8)} {i : Nat} {c : List UInt8} (h : cs[i]? = some c) : (cs.map leafS).getD i z32 = leafS c := by
  rw [List.getD_eq_getElem?_getD, List.getElem?_map, h]; rfl
/-- What is valid. -/
theorem valid_of {k : Sc} (h : validS k = true) : ∃ H N : Nat, k.h = (H : Int) ∧ H ≤ 4 ∧ k.n = (N : Int) ∧ N ≤ 2 ^ H ∧ 2 ^ H ≤ 16 ∧ k.h.toNat = H := by
  unfold validS at h
  rw [decide_eq_true_eq] at h
  obtain ⟨h1, h2, h3, h4⟩ := h
  refine ⟨k.h.toNat, k.n.toNat, by omega, by omega, by omega, ?_, ?_, rfl⟩
  · have : ((k.n.toNat : Nat) : Int) ≤ ((2 ^ k.h.toNat : Nat) : Int) := by rw [Int.toNat_of_nonneg h3]; push_cast; exact h4
    exact_mod_cast this
  · exact Nat.pow_le_pow_right (n := 2) (i := k.h.toNat) (j := 4) (by omega) (by omega)
/-- What is signed is accepted. -/
theorem ver_sign {k : Sc} {body : List UInt8} (hv : validS k = true) (hn : k.n ≠ 2 ^ k.h.toNat) : verS (pubS k).1 body (signS k body).1 = true := by
  obtain ⟨H, N, e1, h2, e3, h4, h5, e6⟩ := valid_of hv
  have hN : N < 2 ^ H := by
    rcases Nat.lt_or_ge N (2 ^ H) with h | h
    · exact h
    · have : N = 2 ^ H := by omega
      exact absurd (by rw [e3, e6, this]; push_cast; rfl) hn
  unfold pubS signS
  rw [if_pos hv, if_pos hv, if_neg hn]
  have hl : ((keysS k.s (2 ^ k.h.toNat)).map leafS).length = 2 ^ H := by rw [List.length_map, keysS_len, e6]
  have hp := proofL_exact H _ k.n.toNat hl (by rw [hl, e3]; exact hN)
  have hch := keysS_at k.s (show k.n.toNat < 2 ^ k.h.toNat by rw [e3, e6]; exact hN)
  have hne : keysS k.s (2 ^ k.h.toNat) ≠ [] := fun e => by rw [e] at hch; cases hch
  unfold verS formedS
  simp only [hp, chainK_len]
  rw [if_pos (by rw [decide_eq_true_eq]; refine ⟨trivial, h2, by omega, ?_⟩; rw [e3]; exact_mod_cast hN), endS_sign]
  have := chk_proof _ _ k.n.toNat (Nat.le_refl _) (show k.n.toNat < ((keysS k.s (2 ^ k.h.toNat)).map leafS).length by rw [hl, e3]; exact hN)
  rw [getD_leaf hch, hl] at this
  rw [this, decide_eq_true_eq, root_keys hne]
end Go.Proofs.YtfdhiilhjfbehaaDoor
