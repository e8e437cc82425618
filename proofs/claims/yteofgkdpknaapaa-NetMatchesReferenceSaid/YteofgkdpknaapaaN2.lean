/- Package net, plain: a packet is read from its bytes, and what is read has its bytes. -/
import Derived.Test.YteofgkdpknaapaaN1
namespace Go.Proofs.Yteofgkdpknaapaa
open Go.RowKit Go.Sort

theorem u8_nat {n : Nat} (h : n < 256) : (UInt8.ofNat n).toNat = n := by rw [UInt8.toNat_ofNat']; omega
theorem u8_of (b : UInt8) : UInt8.ofNat b.toNat = b := UInt8.ofNat_toNat
theorem two_get {n : Nat} (h : n < 65536) : 256 * (UInt8.ofNat (n / 256)).toNat + (UInt8.ofNat n).toNat = n := by
  rw [UInt8.toNat_ofNat', UInt8.toNat_ofNat']; omega
theorem two_of (a b : UInt8) : two (256 * a.toNat + b.toNat) = [a, b] := by
  have ha := a.toNat_lt
  have hb := b.toNat_lt
  unfold two
  have e1 : UInt8.ofNat ((256 * a.toNat + b.toNat) / 256) = a := by
    apply UInt8.toNat_inj.1
    rw [UInt8.toNat_ofNat']; omega
  have e2 : UInt8.ofNat (256 * a.toNat + b.toNat) = b := by
    apply UInt8.toNat_inj.1
    rw [UInt8.toNat_ofNat']; omega
  rw [e1, e2]
theorem tak_of {n : Nat} {x c : List UInt8} (h : x.length = n) : tak n (x ++ c) = some (x, c) := by
  unfold tak
  rw [if_pos (by rw [List.length_append]; omega), List.take_left' h, List.drop_left' h]
theorem tak_inv {n : Nat} {r x t : List UInt8} (h : tak n r = some (x, t)) : r = x ++ t ∧ x.length = n := by
  unfold tak at h
  split at h
  · rename_i hn
    rw [Option.some.injEq, Prod.mk.injEq] at h
    obtain ⟨rfl, rfl⟩ := h
    exact ⟨(List.take_append_drop n r).symm, by rw [List.length_take]; omega⟩
  · simp at h
theorem lst_of {m : Nat} {x c : List UInt8} (h : x.length ≤ m) (hm : m < 65536) : lst m (two x.length ++ (x ++ c)) = some (x, c) := by
  unfold two
  show lst m (UInt8.ofNat (x.length / 256) :: UInt8.ofNat x.length :: (x ++ c)) = _
  simp only [lst]
  rw [two_get (by omega), if_neg (by omega), tak_of rfl]
theorem lst_inv {m : Nat} {r x t : List UInt8} (h : lst m r = some (x, t)) : r = two x.length ++ (x ++ t) ∧ x.length ≤ m := by
  rcases r with _ | ⟨a, _ | ⟨b, r⟩⟩
  · simp [lst] at h
  · simp [lst] at h
  · simp only [lst] at h
    split at h
    · simp at h
    · rename_i hm
      obtain ⟨h1, h2⟩ := tak_inv h
      rw [h2, two_of, h1]
      exact ⟨rfl, by omega⟩
theorem one_inv {r t : List UInt8} {x : Nat} (h : one r = some (x, t)) : r = UInt8.ofNat x :: t ∧ x < 256 := by
  cases r with
  | nil => simp [one] at h
  | cons b r =>
    simp only [one, Option.some.injEq, Prod.mk.injEq] at h
    obtain ⟨rfl, rfl⟩ := h
    exact ⟨by rw [u8_of], b.toNat_lt⟩
theorem one_of {x : Nat} (h : x < 256) (t : List UInt8) : one (UInt8.ofNat x :: t) = some (x, t) := by
  simp only [one]
  rw [u8_nat h]
theorem form_byt {s : Sg} (h : formedS s = true) : formP (bytS s) = true := by
  cases hf : formP (bytS s) with
  | true => rfl
  | false =>
    have h1 := par_byt h
    rw [par_bad hf] at h1
    have := congrArg Prod.snd h1
    simp at this
theorem par_form {bs : List UInt8} (h : formP bs = true) : formedS (parS bs).1 = true := by
  have hp := par_len h
  unfold parS
  rw [if_pos h]
  unfold formP at h
  rw [decide_eq_true_eq] at h
  obtain ⟨h1, h2, h3, h4⟩ := h
  unfold formedS
  rw [decide_eq_true_eq]
  dsimp only
  rw [sumsAt_len, sumsAt_len]
  refine ⟨rfl, h3, by omega, ?_⟩
  exact_mod_cast h4
theorem szK_of {s : Sg} (h : formedS s = true) (c : List UInt8) : szK (bytS s ++ c) = (bytS s).length := by
  have hl := bytS_len s
  obtain ⟨N, _, h67, h4, _, _⟩ := formedS_of h
  have e1 : ((bytS s ++ c).getD 1 0).toNat = s.pa.length := by
    show (b8 (s.pa.length : Int)).toNat = _
    exact b8_nat (by omega)
  unfold szK
  rw [if_pos (by rw [List.length_append]; omega), e1]
  omega
theorem key1_of {x : Ky} (h : goodK x = true) (c : List UInt8) : key1 (bytK x ++ c) = some (x, c) := by
  obtain ⟨k, s⟩ := x
  unfold goodK at h
  rw [Bool.and_eq_true, decide_eq_true_eq] at h
  obtain ⟨⟨h1, h2⟩, h3⟩ := h
  dsimp only at h1 h2 h3
  obtain ⟨K, rfl⟩ := Int.eq_ofNat_of_zero_le h1
  show key1 (b8 (K : Int) :: (bytS s ++ c)) = _
  simp only [key1]
  rw [szK_of h3, List.take_left' rfl, List.drop_left' rfl, b8_nat (by omega), if_pos ⟨by rw [List.length_append]; omega, form_byt h3, by omega⟩, par_byt h3]
theorem key1_inv {r t : List UInt8} {x : Ky} (h : key1 r = some (x, t)) : r = bytK x ++ t ∧ goodK x = true := by
  cases r with
  | nil => simp [key1] at h
  | cons b r =>
    simp only [key1] at h
    split at h
    · rename_i hh
      obtain ⟨h1, h2, h3⟩ := hh
      rw [Option.some.injEq, Prod.mk.injEq] at h
      obtain ⟨rfl, rfl⟩ := h
      refine ⟨?_, ?_⟩
      · unfold bytK
        dsimp only
        rw [b8_of, byt_par h2, List.cons_append, List.take_append_drop]
      · unfold goodK
        rw [Bool.and_eq_true, decide_eq_true_eq]
        exact ⟨⟨by dsimp only; omega, by dsimp only; omega⟩, par_form h2⟩
    · simp at h
theorem sum1_of (x : Sum32) (c : List UInt8) : sum1 (x.1 ++ c) = some (x, c) := by
  unfold sum1
  rw [if_pos (by rw [List.length_append, x.2]; omega), List.take_left' x.2, List.drop_left' x.2]
  have : padS x.1 = x := sum_ext (padL_full x.2)
  rw [this]
theorem sum1_inv {r t : List UInt8} {x : Sum32} (h : sum1 r = some (x, t)) : r = x.1 ++ t := by
  unfold sum1 at h
  split at h
  · rename_i hn
    rw [Option.some.injEq, Prod.mk.injEq] at h
    obtain ⟨rfl, rfl⟩ := h
    have : (padS (r.take 32)).1 = r.take 32 := padL_full (by rw [List.length_take]; omega)
    rw [this, List.take_append_drop]
  · simp at h
theorem many_of {α : Type} {f : List UInt8 → Rdr α} {g : α → List UInt8} {xs : List α} (hf : ∀ x, x ∈ xs → ∀ c, f (g x ++ c) = some (x, c)) (c : List UInt8) : ∀ n, n ≤ xs.length → many f n (xs.flatMap g ++ c) = some (xs.take n, (xs.drop n).flatMap g ++ c)
  | 0, _ => by simp [many]
  | n + 1, h => by
    have hn : n < xs.length := by omega
    simp only [many]
    rw [many_of hf c n (by omega), Option.bind_some]
    dsimp only
    rw [List.drop_eq_getElem_cons hn, List.flatMap_cons, List.append_assoc, hf _ (List.getElem_mem hn), Option.map_some]
    dsimp only
    rw [List.take_succ_eq_append_getElem hn]
theorem many_inv {α : Type} {f : List UInt8 → Rdr α} {g : α → List UInt8} {P : α → Prop} (hf : ∀ {r t : List UInt8} {x : α}, f r = some (x, t) → r = g x ++ t ∧ P x) : ∀ (n : Nat) {r t : List UInt8} {xs : List α}, many f n r = some (xs, t) → r = xs.flatMap g ++ t ∧ xs.length = n ∧ ∀ x ∈ xs, P x
  | 0, r, t, xs, h => by
    simp only [many, Option.some.injEq, Prod.mk.injEq] at h
    obtain ⟨rfl, rfl⟩ := h
    exact ⟨rfl, rfl, by simp⟩
  | n + 1, r, t, xs, h => by
    simp only [many] at h
    obtain ⟨⟨y, s⟩, h1, h2⟩ := Option.bind_eq_some_iff.1 h
    obtain ⟨⟨z, q⟩, h3, h4⟩ := Option.map_eq_some_iff.1 h2
    dsimp only at h3 h4
    rw [Prod.mk.injEq] at h4
    obtain ⟨rfl, rfl⟩ := h4
    obtain ⟨e1, e2, e3⟩ := many_inv hf n h1
    obtain ⟨e4, e5⟩ := hf h3
    refine ⟨?_, by simp [e2], ?_⟩
    · rw [e1, e4, List.flatMap_append]
      simp
    · intro x hx
      rcases List.mem_append.1 hx with hx | hx
      · exact e3 x hx
      · rw [List.mem_singleton] at hx
        rw [hx]
        exact e5
theorem lstB_app (x c : List UInt8) (k : Nat) : lstB x k ++ c = two x.length ++ (x ++ (UInt8.ofNat k :: c)) := by
  unfold lstB
  simp
theorem metaR_of {body : List UInt8} {sigs : List Ky} (h : signedP body sigs = true) (c : List UInt8) : metaR 0 (lstB body sigs.length ++ (sigs.flatMap bytK ++ c)) = some ((body, sigs), c) := by
  unfold signedP at h
  rw [Bool.and_eq_true, decide_eq_true_eq, List.all_eq_true] at h
  obtain ⟨⟨h1, h2⟩, h3⟩ := h
  unfold metaR
  rw [lstB_app, lst_of h1 (by omega), Option.bind_some]
  dsimp only
  rw [one_of (by omega), Option.bind_some]
  dsimp only
  rw [many_of (fun x hx c => key1_of (h3 x hx) c) c _ (Nat.le_refl _), Option.bind_some]
  dsimp only
  rw [if_pos ⟨h2, rfl⟩, List.take_length, List.drop_length]
  rfl
theorem metaR_inv {N : Nat} {r t body : List UInt8} {sigs : List Ky} (h : metaR N r = some ((body, sigs), t)) : r = lstB body sigs.length ++ (sigs.flatMap bytK ++ t) ∧ signedP body sigs = true ∧ N = 0 := by
  unfold metaR at h
  obtain ⟨⟨a, r1⟩, h1, h⟩ := Option.bind_eq_some_iff.1 h
  obtain ⟨⟨b, r2⟩, h2, h⟩ := Option.bind_eq_some_iff.1 h
  obtain ⟨⟨d, r3⟩, h3, h⟩ := Option.bind_eq_some_iff.1 h
  dsimp only at h h2 h3
  split at h
  · rename_i hh
    rw [Option.some.injEq, Prod.mk.injEq, Prod.mk.injEq] at h
    obtain ⟨⟨rfl, rfl⟩, rfl⟩ := h
    obtain ⟨e1, e2⟩ := lst_inv h1
    obtain ⟨e3, _⟩ := one_inv h2
    obtain ⟨e4, e5, e6⟩ := many_inv (f := key1) (g := bytK) (P := fun x => goodK x = true) (fun h => key1_inv h) _ h3
    refine ⟨by rw [lstB_app, e1, e3, e4, e5], ?_, hh.2⟩
    unfold signedP
    rw [Bool.and_eq_true, decide_eq_true_eq, List.all_eq_true]
    exact ⟨⟨e2, by omega⟩, e6⟩
  · simp at h
theorem chunkR_of {data : List UInt8} {proof : List Sum32} (h1 : data.length ≤ 1024) (h2 : proof.length ≤ 8) (c : List UInt8) : chunkR (lstB data proof.length ++ (proof.flatMap (·.1) ++ c)) = some ((data, proof), c) := by
  unfold chunkR
  rw [lstB_app, lst_of h1 (by omega), Option.bind_some]
  dsimp only
  rw [one_of (by omega), Option.bind_some]
  dsimp only
  rw [if_neg (by omega), many_of (f := sum1) (g := fun x => x.1) (fun x _ c => sum1_of x c) c _ (Nat.le_refl _), Option.bind_some]
  dsimp only
  rw [List.take_length, List.drop_length]
  rfl
theorem chunkR_inv {r t data : List UInt8} {proof : List Sum32} (h : chunkR r = some ((data, proof), t)) : r = lstB data proof.length ++ (proof.flatMap (·.1) ++ t) ∧ data.length ≤ 1024 ∧ proof.length ≤ 8 := by
  unfold chunkR at h
  obtain ⟨⟨a, r1⟩, h1, h⟩ := Option.bind_eq_some_iff.1 h
  obtain ⟨⟨b, r2⟩, h2, h⟩ := Option.bind_eq_some_iff.1 h
  dsimp only at h h2
  split at h
  · simp at h
  · rename_i hh
    obtain ⟨⟨d, r3⟩, h3, h⟩ := Option.bind_eq_some_iff.1 h
    dsimp only at h h3
    rw [Option.some.injEq, Prod.mk.injEq, Prod.mk.injEq] at h
    obtain ⟨⟨rfl, rfl⟩, rfl⟩ := h
    obtain ⟨e1, e2⟩ := lst_inv h1
    obtain ⟨e3, _⟩ := one_inv h2
    obtain ⟨e4, e5, _⟩ := many_inv (f := sum1) (g := fun x => x.1) (P := fun _ => True) (fun h => ⟨sum1_inv h, trivial⟩) _ h3
    exact ⟨by rw [lstB_app, e1, e3, e4, e5], e2, by omega⟩
theorem emp {α : Type} {l : List α} (h : l.isEmpty = true) : l = [] := List.isEmpty_iff.1 h
/-- A valid packet is read from its bytes. -/
theorem parP_of {p : Pk} (h : validP p = true) : parP (bytP p) = some p := by
  obtain ⟨k, u, n, data, proof, body, sigs⟩ := p
  unfold validP at h
  rw [Bool.and_eq_true, decide_eq_true_eq] at h
  obtain ⟨⟨hu0, hu8⟩, h⟩ := h
  dsimp only at hu0 hu8 h
  obtain ⟨U, rfl⟩ := Int.eq_ofNat_of_zero_le hu0
  have hU : U < 8 := by omega
  unfold bytP restB
  dsimp only
  simp only [parP]
  rw [b8_nat (show U < 256 by omega), if_neg (by omega)]
  unfold noData noMeta at h
  split at h
  · rename_i hk
    subst hk
    simp only [Bool.and_eq_true, decide_eq_true_eq] at h
    obtain ⟨⟨rfl, h2, h3⟩, h4, h5⟩ := h
    rw [emp h2, emp h3, emp h4, emp h5]
    rfl
  · rename_i hk
    split at h
    · rename_i hk2
      subst hk2
      simp only [Bool.and_eq_true, decide_eq_true_eq] at h
      obtain ⟨⟨rfl, h2, h3⟩, h4⟩ := h
      rw [emp h2, emp h3]
      have e2 : (b8 2).toNat = 2 := rfl
      have e0 : (b8 0).toNat = 0 := rfl
      have hm := metaR_of h4 []
      rw [List.append_nil] at hm
      unfold tailR
      rw [e2, e0, if_neg (by decide), if_pos rfl, if_pos rfl, hm]
      rfl
    · rename_i hk2
      split at h
      · rename_i hk3
        subst hk3
        simp only [Bool.and_eq_true, decide_eq_true_eq] at h
        obtain ⟨⟨⟨h0, h1⟩, h2, h3⟩, h4, h5⟩ := h
        obtain ⟨N, rfl⟩ := Int.eq_ofNat_of_zero_le h0
        rw [emp h2, emp h3, emp h4, emp h5, b8_nat (show N < 256 by omega)]
        rfl
      · rename_i hk3
        split at h
        · rename_i hk4
          subst hk4
          simp only [Bool.and_eq_true, decide_eq_true_eq] at h
          obtain ⟨⟨⟨h0, h1⟩, h2, h3⟩, h4, h5⟩ := h
          obtain ⟨N, rfl⟩ := Int.eq_ofNat_of_zero_le h0
          rw [emp h4, emp h5, b8_nat (show N < 256 by omega)]
          have e4 : (b8 4).toNat = 4 := rfl
          have hm := chunkR_of h2 h3 []
          rw [List.append_nil] at hm
          unfold tailR
          rw [e4, if_neg (by decide), if_neg (by decide), if_neg (by decide), if_pos rfl, if_neg (by decide), if_pos rfl, hm]
          rfl
        · simp at h
/-- What is read is valid, and has the bytes. -/
theorem parP_inv {b : List UInt8} {p : Pk} (h : parP b = some p) : bytP p = b ∧ validP p = true := by
  rcases b with _ | ⟨k, _ | ⟨u, _ | ⟨n, r⟩⟩⟩
  · simp [parP] at h
  · simp [parP] at h
  · simp [parP] at h
  · simp only [parP] at h
    split at h
    · simp at h
    · rename_i hu
      obtain ⟨⟨d, r3⟩, h3, h⟩ := Option.bind_eq_some_iff.1 h
      dsimp only at h
      split at h
      · rename_i he
        subst he
        rw [Option.some.injEq] at h
        subst h
        have hk := k.toNat_lt
        have hn := n.toNat_lt
        unfold tailR at h3
        split at h3
        · rename_i hk1
          split at h3
          · rename_i hn0
            rw [Option.some.injEq, Prod.mk.injEq] at h3
            obtain ⟨rfl, rfl⟩ := h3
            have ek : b8 1 = k := by rw [← b8_of k, hk1]; rfl
            have en : b8 0 = n := by rw [← b8_of n, hn0]; rfl
            refine ⟨?_, ?_⟩
            · unfold bytP restB
              dsimp only
              rw [ek, en, b8_of]
              rfl
            · simp [validP, noData, noMeta]
              omega
          · simp at h3
        · rename_i hk1
          split at h3
          · rename_i hk2
            obtain ⟨⟨⟨bd, sg⟩, r4⟩, h4, h5⟩ := Option.map_eq_some_iff.1 h3
            dsimp only at h5
            rw [Prod.mk.injEq] at h5
            obtain ⟨rfl, rfl⟩ := h5
            obtain ⟨e1, e2, e3⟩ := metaR_inv h4
            have ek : b8 2 = k := by rw [← b8_of k, hk2]; rfl
            refine ⟨?_, ?_⟩
            · unfold bytP restB
              dsimp only
              rw [ek, b8_of, b8_of, if_pos rfl, e1, List.append_nil]
            · simp [validP, noData, e2, e3]
              omega
          · rename_i hk2
            split at h3
            · rename_i hk3
              rw [Option.some.injEq, Prod.mk.injEq] at h3
              obtain ⟨rfl, rfl⟩ := h3
              have ek : b8 3 = k := by rw [← b8_of k, hk3]; rfl
              refine ⟨?_, ?_⟩
              · unfold bytP restB
                dsimp only
                rw [ek, b8_of, b8_of]
                rfl
              · simp [validP, noData, noMeta]
                omega
            · rename_i hk3
              split at h3
              · rename_i hk4
                obtain ⟨⟨⟨bd, sg⟩, r4⟩, h4, h5⟩ := Option.map_eq_some_iff.1 h3
                dsimp only at h5
                rw [Prod.mk.injEq] at h5
                obtain ⟨rfl, rfl⟩ := h5
                obtain ⟨e1, e2, e3⟩ := chunkR_inv h4
                have ek : b8 4 = k := by rw [← b8_of k, hk4]; rfl
                refine ⟨?_, ?_⟩
                · unfold bytP restB
                  dsimp only
                  rw [ek, b8_of, b8_of, if_neg (by decide), if_pos rfl, e1, List.append_nil]
                · simp [validP, noMeta, e2, e3]
                  omega
              · simp at h3
      · simp at h
end Go.Proofs.Yteofgkdpknaapaa
