/- Package net, plain: what the reference reads (a reader that goes on with a mark) is what the program reads. -/
import Derived.Test.YteofgkdpknaapaaN2
namespace Go.Proofs.Yteofgkdpknaapaa
open Go.RowKit Go.Sort

/-- The reference's reader: the bytes that are left, and the mark. -/
structure RS where
  (b : List UInt8) (bad : Bool)
def takR (n : Nat) (s : RS) : List UInt8 × RS := if s.b.length < n then (List.replicate n 0, ⟨s.b, true⟩) else (s.b.take n, ⟨s.b.drop n, s.bad⟩)
def oneR (s : RS) : Nat × RS := (((takR 1 s).1.getD 0 0).toNat, (takR 1 s).2)
def textR (s : RS) : List UInt8 × RS := takR (256 * ((takR 2 s).1.getD 0 0).toNat + ((takR 2 s).1.getD 1 0).toNat) (takR 2 s).2
def sumsR : Nat → RS → List Sum32 × RS
  | 0, s => ([], s)
  | n + 1, s => ((sumsR n s).1 ++ [padS (takR 32 (sumsR n s).2).1], (takR 32 (sumsR n s).2).2)
/-- One signature, where no mark stands. -/
def keyR (xs : List Ky) (s : RS) : List Ky × RS :=
  let k := oneR s
  let h := takR 2 k.2
  if 4 < (h.1.getD 1 0).toNat then (xs, ⟨h.2.b, true⟩)
  else
    let r := takR (32 * (67 + (h.1.getD 1 0).toNat)) h.2
    (xs ++ [⟨(k.1 : Int), (parS (h.1 ++ r.1)).1⟩], ⟨r.2.b, r.2.bad || !formP (h.1 ++ r.1)⟩)
def keysR : Nat → RS → List Ky × RS
  | 0, s => ([], s)
  | n + 1, s => if (keysR n s).2.bad = true then keysR n s else keyR (keysR n s).1 (keysR n s).2
def signedR (s : RS) : (List UInt8 × List Ky) × RS :=
  let t := textR s
  let n := oneR t.2
  let l := keysR n.1 n.2
  ((t.1, l.1), l.2)
def chunkRR (s : RS) : (List UInt8 × List Sum32) × RS :=
  let t := textR s
  let n := oneR t.2
  let l := sumsR n.1 n.2
  ((t.1, l.1), l.2)
/-- What the reference has read, before it looks whether that is right. -/
def rawR (b : List UInt8) : Pk × RS :=
  let k := oneR ⟨b, false⟩
  let u := oneR k.2
  let n := oneR u.2
  if k.1 = 2 then (⟨2, (u.1 : Int), (n.1 : Int), [], [], (signedR n.2).1.1, (signedR n.2).1.2⟩, (signedR n.2).2)
  else if k.1 = 4 then (⟨4, (u.1 : Int), (n.1 : Int), (chunkRR n.2).1.1, (chunkRR n.2).1.2, [], []⟩, (chunkRR n.2).2)
  else (⟨(k.1 : Int), (u.1 : Int), (n.1 : Int), [], [], [], []⟩, n.2)
def refP (b : List UInt8) : Pk × Int :=
  if (rawR b).2.bad = true ∨ (rawR b).2.b ≠ [] ∨ validP (rawR b).1 = false then (pk0, 310) else ((rawR b).1, 0)
/-- What the program answers. -/
def ansP (b : List UInt8) : Pk × Int := match parP b with
  | some p => (p, 0)
  | none => (pk0, 310)

theorem takR_len (n : Nat) (s : RS) : (takR n s).1.length = n := by
  unfold takR
  split
  · simp
  · rw [List.length_take]; omega
theorem takR_of {n : Nat} {x c : List UInt8} (h : x.length = n) : takR n ⟨x ++ c, false⟩ = (x, ⟨c, false⟩) := by
  unfold takR
  dsimp only
  rw [if_neg (by rw [List.length_append]; omega), List.take_left' h, List.drop_left' h]
theorem takR_inv {n : Nat} {s : RS} (h : (takR n s).2.bad = false) : s.bad = false ∧ s.b = (takR n s).1 ++ (takR n s).2.b := by
  unfold takR at h ⊢
  split
  · rename_i hn
    rw [if_pos hn] at h
    simp at h
  · rename_i hn
    rw [if_neg hn] at h
    exact ⟨h, (List.take_append_drop _ _).symm⟩
theorem oneR_of (b : UInt8) (c : List UInt8) : oneR ⟨b :: c, false⟩ = (b.toNat, ⟨c, false⟩) := by
  unfold oneR
  rw [show b :: c = [b] ++ c from rfl, takR_of (n := 1) (x := [b]) rfl]
  rfl
theorem one_list {l : List UInt8} (h : l.length = 1) : l = [l.getD 0 0] := by
  rcases l with _ | ⟨a, _ | ⟨b, l⟩⟩
  · simp at h
  · rfl
  · simp at h
theorem two_list {l : List UInt8} (h : l.length = 2) : l = [l.getD 0 0, l.getD 1 0] := by
  rcases l with _ | ⟨a, _ | ⟨b, _ | ⟨c, l⟩⟩⟩
  · simp at h
  · simp at h
  · rfl
  · simp at h
theorem oneR_inv {s : RS} (h : (oneR s).2.bad = false) : s.bad = false ∧ s.b = UInt8.ofNat (oneR s).1 :: (oneR s).2.b ∧ (oneR s).1 < 256 := by
  unfold oneR at h ⊢
  obtain ⟨h1, h2⟩ := takR_inv h
  refine ⟨h1, ?_, UInt8.toNat_lt _⟩
  rw [h2]
  dsimp only
  rw [u8_of]
  have := one_list (takR_len 1 s)
  conv => lhs; rw [this]
  have h3 : (takR 1 s).2 = (takR 1 ⟨(takR 1 s).1 ++ (takR 1 s).2.b, s.bad⟩).2 := by rw [← h2]
  rfl
theorem textR_of {x c : List UInt8} (h : x.length < 65536) : textR ⟨two x.length ++ (x ++ c), false⟩ = (x, ⟨c, false⟩) := by
  unfold textR
  rw [takR_of (n := 2) rfl]
  show takR (256 * (UInt8.ofNat (x.length / 256)).toNat + (UInt8.ofNat x.length).toNat) _ = _
  rw [two_get h, takR_of rfl]
theorem textR_inv {s : RS} (h : (textR s).2.bad = false) : s.bad = false ∧ s.b = two (textR s).1.length ++ ((textR s).1 ++ (textR s).2.b) := by
  unfold textR at h ⊢
  obtain ⟨h1, h2⟩ := takR_inv h
  obtain ⟨h3, h4⟩ := takR_inv h1
  refine ⟨h3, ?_⟩
  rw [takR_len, two_of, ← h2, ← two_list (takR_len 2 s)]
  exact h4
theorem sumsR_of (c : List UInt8) (xs : List Sum32) : ∀ n, n ≤ xs.length → sumsR n ⟨xs.flatMap (·.1) ++ c, false⟩ = (xs.take n, ⟨(xs.drop n).flatMap (·.1) ++ c, false⟩)
  | 0, _ => by simp [sumsR]
  | n + 1, h => by
    have hn : n < xs.length := by omega
    simp only [sumsR]
    rw [sumsR_of c xs n (by omega)]
    dsimp only
    rw [List.drop_eq_getElem_cons hn, List.flatMap_cons, List.append_assoc, takR_of (xs[n]).2]
    dsimp only
    have : padS (xs[n]).1 = xs[n] := sum_ext (padL_full (xs[n]).2)
    rw [this, List.take_succ_eq_append_getElem hn]
theorem sumsR_inv : ∀ (n : Nat) {s : RS}, (sumsR n s).2.bad = false → s.bad = false ∧ s.b = (sumsR n s).1.flatMap (·.1) ++ (sumsR n s).2.b
  | 0, s, h => ⟨h, rfl⟩
  | n + 1, s, h => by
    simp only [sumsR] at h ⊢
    obtain ⟨h1, h2⟩ := takR_inv h
    obtain ⟨h3, h4⟩ := sumsR_inv n h1
    refine ⟨h3, ?_⟩
    have hv : (padS (takR 32 (sumsR n s).2).1).1 = (takR 32 (sumsR n s).2).1 := padL_full (takR_len _ _)
    rw [List.flatMap_append, List.flatMap_cons, List.flatMap_nil, List.append_nil, hv, List.append_assoc, ← h2]
    exact h4
theorem sumsR_len : ∀ (n : Nat) (s : RS), (sumsR n s).1.length = n
  | 0, _ => rfl
  | n + 1, s => by simp [sumsR, sumsR_len n s]
theorem keyR_of {x : Ky} (h : goodK x = true) (xs : List Ky) (c : List UInt8) : keyR xs ⟨bytK x ++ c, false⟩ = (xs ++ [x], ⟨c, false⟩) := by
  obtain ⟨k, s⟩ := x
  unfold goodK at h
  rw [Bool.and_eq_true, decide_eq_true_eq] at h
  obtain ⟨⟨h1, h2⟩, h3⟩ := h
  dsimp only at h1 h2 h3
  obtain ⟨K, rfl⟩ := Int.eq_ofNat_of_zero_le h1
  obtain ⟨N, e, h67, h4, h5, h6⟩ := formedS_of h3
  have hf := form_byt h3
  have hp := par_byt h3
  have e1 : (b8 (s.pa.length : Int)).toNat = s.pa.length := b8_nat (by omega)
  have hb : bytS s = [b8 s.i, b8 (s.pa.length : Int)] ++ (s.ch.flatMap (·.1) ++ s.pa.flatMap (·.1)) := rfl
  have hh : (⟨bytK ⟨(K : Int), s⟩ ++ c, false⟩ : RS) = ⟨b8 (K : Int) :: (bytS s ++ c), false⟩ := rfl
  rw [hh]
  unfold keyR
  rw [oneR_of, b8_nat (by omega)]
  dsimp only
  rw [hb, List.append_assoc, takR_of (n := 2) rfl]
  dsimp only
  have e2 : ([b8 s.i, b8 (s.pa.length : Int)].getD 1 0).toNat = s.pa.length := e1
  rw [e2, if_neg (by omega), takR_of (by rw [List.length_append, vals_len, vals_len]; omega)]
  dsimp only
  rw [← hb, hf, hp]
  rfl
theorem keyR_inv {xs : List Ky} {s : RS} (h : (keyR xs s).2.bad = false) : ∃ x, (keyR xs s).1 = xs ++ [x] ∧ s.bad = false ∧ s.b = bytK x ++ (keyR xs s).2.b := by
  unfold keyR at h ⊢
  dsimp only at h ⊢
  split at h
  · simp at h
  · rename_i hh
    rw [if_neg hh]
    dsimp only at h ⊢
    rw [Bool.or_eq_false_iff, Bool.not_eq_false'] at h
    obtain ⟨h1, h2⟩ := h
    refine ⟨_, rfl, ?_⟩
    obtain ⟨h3, h4⟩ := takR_inv h1
    obtain ⟨h5, h6⟩ := takR_inv h3
    obtain ⟨h7, h8, h9⟩ := oneR_inv h5
    refine ⟨h7, ?_⟩
    unfold bytK
    dsimp only
    rw [byt_par h2, h8, h6, h4, List.cons_append, List.append_assoc]
    congr 1
    apply UInt8.toNat_inj.1
    rw [b8_nat h9, u8_nat h9]
theorem keysR_of (c : List UInt8) {xs : List Ky} (hg : ∀ x, x ∈ xs → goodK x = true) : ∀ n, n ≤ xs.length → keysR n ⟨xs.flatMap bytK ++ c, false⟩ = (xs.take n, ⟨(xs.drop n).flatMap bytK ++ c, false⟩)
  | 0, _ => by simp [keysR]
  | n + 1, h => by
    have hn : n < xs.length := by omega
    simp only [keysR]
    rw [keysR_of c hg n (by omega)]
    dsimp only
    rw [if_neg (by decide), List.drop_eq_getElem_cons hn, List.flatMap_cons, List.append_assoc, keyR_of (hg _ (List.getElem_mem hn)), List.take_succ_eq_append_getElem hn]
theorem keysR_inv : ∀ (n : Nat) {s : RS}, (keysR n s).2.bad = false → s.bad = false ∧ s.b = (keysR n s).1.flatMap bytK ++ (keysR n s).2.b ∧ (keysR n s).1.length = n
  | 0, s, h => ⟨h, rfl, rfl⟩
  | n + 1, s, h => by
    simp only [keysR] at h ⊢
    split at h
    · rename_i hb
      rw [hb] at h
      simp at h
    · rename_i hb
      rw [if_neg hb]
      obtain ⟨x, e1, e2, e3⟩ := keyR_inv h
      obtain ⟨h3, h4, h5⟩ := keysR_inv n e2
      refine ⟨h3, ?_, by rw [e1]; simp [h5]⟩
      rw [e1, List.flatMap_append, List.flatMap_cons, List.flatMap_nil, List.append_nil, List.append_assoc, ← e3]
      exact h4
theorem keysR_bad {n m : Nat} {s : RS} (h : (keysR n s).2.bad = true) (hm : n ≤ m) : keysR m s = keysR n s := by
  obtain ⟨d, rfl⟩ := Nat.exists_eq_add_of_le hm
  induction d with
  | zero => rfl
  | succ d ih =>
    show (if (keysR (n + d) s).2.bad = true then keysR (n + d) s else _) = _
    rw [ih (by omega), if_pos h]
theorem signedR_of {body : List UInt8} {sigs : List Ky} (h : signedP body sigs = true) (c : List UInt8) : signedR ⟨lstB body sigs.length ++ (sigs.flatMap bytK ++ c), false⟩ = ((body, sigs), ⟨c, false⟩) := by
  unfold signedP at h
  rw [Bool.and_eq_true, decide_eq_true_eq, List.all_eq_true] at h
  obtain ⟨⟨h1, h2⟩, h3⟩ := h
  unfold signedR
  rw [lstB_app, textR_of (by omega)]
  dsimp only
  rw [oneR_of, u8_nat (by omega)]
  dsimp only
  rw [keysR_of c h3 _ (Nat.le_refl _), List.take_length, List.drop_length]
  rfl
theorem chunkRR_of {data : List UInt8} {proof : List Sum32} (h1 : data.length ≤ 1024) (h2 : proof.length ≤ 8) (c : List UInt8) : chunkRR ⟨lstB data proof.length ++ (proof.flatMap (·.1) ++ c), false⟩ = ((data, proof), ⟨c, false⟩) := by
  unfold chunkRR
  rw [lstB_app, textR_of (by omega)]
  dsimp only
  rw [oneR_of, u8_nat (by omega)]
  dsimp only
  rw [sumsR_of c _ _ (Nat.le_refl _), List.take_length, List.drop_length]
  rfl
theorem signedR_inv {s : RS} (h : (signedR s).2.bad = false) : s.bad = false ∧ s.b = lstB (signedR s).1.1 (signedR s).1.2.length ++ ((signedR s).1.2.flatMap bytK ++ (signedR s).2.b) := by
  unfold signedR at h ⊢
  dsimp only at h ⊢
  obtain ⟨h1, h2, h3⟩ := keysR_inv _ h
  obtain ⟨h4, h5, _⟩ := oneR_inv h1
  obtain ⟨h6, h7⟩ := textR_inv h4
  refine ⟨h6, ?_⟩
  rw [lstB_app, h3, ← h2, ← h5]
  exact h7
theorem chunkRR_inv {s : RS} (h : (chunkRR s).2.bad = false) : s.bad = false ∧ s.b = lstB (chunkRR s).1.1 (chunkRR s).1.2.length ++ ((chunkRR s).1.2.flatMap (·.1) ++ (chunkRR s).2.b) := by
  unfold chunkRR at h ⊢
  dsimp only at h ⊢
  obtain ⟨h1, h2⟩ := sumsR_inv _ h
  obtain ⟨h4, h5, _⟩ := oneR_inv h1
  obtain ⟨h6, h7⟩ := textR_inv h4
  refine ⟨h6, ?_⟩
  rw [lstB_app, sumsR_len, ← h2, ← h5]
  exact h7
theorem b8_ofNat {n : Nat} (h : n < 256) : b8 (n : Int) = UInt8.ofNat n := by
  apply UInt8.toNat_inj.1
  rw [b8_nat h, u8_nat h]
theorem rawR_of {p : Pk} (h : validP p = true) : rawR (bytP p) = (p, ⟨[], false⟩) := by
  obtain ⟨k, u, n, data, proof, body, sigs⟩ := p
  unfold validP at h
  rw [Bool.and_eq_true, decide_eq_true_eq] at h
  obtain ⟨⟨hu0, hu8⟩, h⟩ := h
  dsimp only at hu0 hu8 h
  obtain ⟨U, rfl⟩ := Int.eq_ofNat_of_zero_le hu0
  have hU : U < 8 := by omega
  unfold bytP restB rawR
  dsimp only
  rw [oneR_of]
  dsimp only
  rw [oneR_of]
  dsimp only
  rw [oneR_of]
  dsimp only
  rw [b8_nat (show U < 256 by omega)]
  unfold noData noMeta at h
  split at h
  · rename_i hk
    subst hk
    simp only [Bool.and_eq_true, decide_eq_true_eq] at h
    obtain ⟨⟨rfl, h2, h3⟩, h4, h5⟩ := h
    rw [emp h2, emp h3, emp h4, emp h5]
    rfl
  · rename_i hk
    split at h
    · rename_i hk2
      subst hk2
      simp only [Bool.and_eq_true, decide_eq_true_eq] at h
      obtain ⟨⟨rfl, h2, h3⟩, h4⟩ := h
      rw [emp h2, emp h3]
      have e2 : (b8 2).toNat = 2 := rfl
      have hm := signedR_of h4 []
      rw [List.append_nil] at hm
      rw [e2, if_pos rfl, if_pos rfl, hm]
      rfl
    · rename_i hk2
      split at h
      · rename_i hk3
        subst hk3
        simp only [Bool.and_eq_true, decide_eq_true_eq] at h
        obtain ⟨⟨⟨h0, h1⟩, h2, h3⟩, h4, h5⟩ := h
        obtain ⟨N, rfl⟩ := Int.eq_ofNat_of_zero_le h0
        rw [emp h2, emp h3, emp h4, emp h5, b8_nat (show N < 256 by omega)]
        rfl
      · rename_i hk3
        split at h
        · rename_i hk4
          subst hk4
          simp only [Bool.and_eq_true, decide_eq_true_eq] at h
          obtain ⟨⟨⟨h0, h1⟩, h2, h3⟩, h4, h5⟩ := h
          obtain ⟨N, rfl⟩ := Int.eq_ofNat_of_zero_le h0
          rw [emp h4, emp h5, b8_nat (show N < 256 by omega)]
          have e4 : (b8 4).toNat = 4 := rfl
          have hm := chunkRR_of h2 h3 []
          rw [List.append_nil] at hm
          rw [e4, if_neg (by decide), if_pos rfl, if_neg (by decide), if_pos rfl, hm]
        · simp at h
theorem three_inv {s : RS} {k u n : Nat} {t : RS} (ek : (oneR s).1 = k) (eu : (oneR (oneR s).2).1 = u) (en : (oneR (oneR (oneR s).2).2) = (n, t)) (h : t.bad = false) : s.b = b8 (k : Int) :: b8 (u : Int) :: b8 (n : Int) :: t.b := by
  have h0 : (oneR (oneR (oneR s).2).2).2.bad = false := by rw [en]; exact h
  obtain ⟨a1, a2, a3⟩ := oneR_inv h0
  obtain ⟨b1, b2, b3⟩ := oneR_inv a1
  obtain ⟨_, c2, c3⟩ := oneR_inv b1
  rw [en] at a2 a3
  rw [eu] at b2 b3
  rw [ek] at c2 c3
  rw [b8_ofNat a3, b8_ofNat b3, b8_ofNat c3, c2, b2, a2]
theorem rawR_inv {b : List UInt8} (h1 : (rawR b).2.bad = false) (h2 : (rawR b).2.b = []) : bytP (rawR b).1 = b := by
  unfold rawR at h1 h2 ⊢
  dsimp only at h1 h2 ⊢
  obtain ⟨k, hk⟩ : ∃ k, (oneR ⟨b, false⟩).1 = k := ⟨_, rfl⟩
  obtain ⟨u, hu⟩ : ∃ u, (oneR (oneR ⟨b, false⟩).2).1 = u := ⟨_, rfl⟩
  obtain ⟨nt, hn⟩ : ∃ nt, oneR (oneR (oneR ⟨b, false⟩).2).2 = nt := ⟨_, rfl⟩
  obtain ⟨n, t⟩ := nt
  have hb := three_inv hk hu hn
  rw [hk, hu, hn] at h1
  rw [hk, hu, hn] at h2
  rw [hk, hu, hn]
  dsimp only at h1 h2 hb ⊢
  clear hk hu hn
  split at h1
  · rename_i hk
    rw [if_pos hk] at h2 ⊢
    dsimp only at h1 h2
    obtain ⟨e1, e2⟩ := signedR_inv h1
    rw [h2, List.append_nil] at e2
    unfold bytP restB
    dsimp only
    rw [if_pos rfl, ← e2, hb e1, hk]
    rfl
  · rename_i hk
    rw [if_neg hk] at h2 ⊢
    split at h1
    · rename_i hk4
      rw [if_pos hk4] at h2 ⊢
      dsimp only at h1 h2
      obtain ⟨e1, e2⟩ := chunkRR_inv h1
      rw [h2, List.append_nil] at e2
      unfold bytP restB
      dsimp only
      rw [if_neg (by decide), if_pos rfl, ← e2, hb e1, hk4]
      rfl
    · rename_i hk4
      rw [if_neg hk4] at h2 ⊢
      unfold bytP restB
      dsimp only at h1 h2 ⊢
      rw [if_neg (by omega), if_neg (by omega), hb h1, h2]
/-- The reference answers as the program. -/
theorem refP_eq (b : List UInt8) : refP b = ansP b := by
  unfold refP ansP
  cases h : parP b with
  | some p =>
    obtain ⟨h1, h2⟩ := parP_inv h
    rw [← h1, rawR_of h2]
    dsimp only
    rw [if_neg (by simp [h2])]
  | none =>
    dsimp only
    split
    · rfl
    · rename_i hh
      rw [not_or, not_or] at hh
      obtain ⟨h1, h2, h3⟩ := hh
      have h3 : validP (rawR b).1 = true := by
        cases hv : validP (rawR b).1 with
        | true => rfl
        | false => exact absurd hv h3
      have h4 := rawR_inv (by cases hv : (rawR b).2.bad with | true => exact absurd hv h1 | false => rfl) (Classical.not_not.1 h2)
      have h5 := parP_of h3
      rw [h4, h] at h5
      simp at h5
end Go.Proofs.Yteofgkdpknaapaa
