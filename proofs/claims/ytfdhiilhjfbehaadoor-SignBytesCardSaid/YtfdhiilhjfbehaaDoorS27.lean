/- Parts of the laws: bent. -/
import Derived.Test.YtfdhiilhjfbehaaDoorS26
import Derived.Test.YtfdhiilhjfbehaaDoorFlowI
namespace Go.Proofs.YtfdhiilhjfbehaaDoor
open Go.RowKit Go.Sort

theorem nil35 (w : World) : (Instr.buildSlice 35 0 #[]).run Tryd.prog w = .ok (.slice (some ⟨w.heap.size, 0, none⟩) 0 0) (w.alloc (.cells #[] 26)) := by kernel_rfl
theorem w8x_xor (x y : UInt8) : bits .xor .u8 (x.toNat : Int) (y.toNat : Int) = ((x ^^^ y).toNat : Int) := by
  rw [u8_xor_nat _ _ x.toNat_lt y.toNat_lt, UInt8.toNat_xor]
theorem built37f (i : Int) (A : Option Addr) (n c : Nat) (B : Option Addr) (m d : Nat) : Tryd.prog.built 37 [(0, .int .i64 i), (1, .slice A n c), (2, .slice B m d)] = some (sgV i A n c B m d).toArray := by kernel_rfl
def shaB (b : UInt8) : Sum32 := ⟨b :: List.replicate 31 0, rfl⟩
theorem builtSum1 (b : UInt8) : Tryd.prog.built 26 [(0, .int .u8 (b.toNat : Int))] = some (sumC (shaB b)).toArray := by kernel_rfl
theorem blkF_own {v : Value} {g : Nat} (h : blkF v = some g) : v.ownBlock = some g := by
  unfold blkF at h
  split at h
  · exact h
  · cases h
theorem wpList_build1s {P : Program} {ops : Array Oper} {rest : List Oper} {Q : Exit → Act → World → Prop} {o : Oper} {a : Act} {w : World} (hg : o.guard = none) (t e : TypeId) (x : Operand) (ho : o.op = .buildSlice t 1 #[(0, x)])
    (cells : Array Value) (ie : TypeInfo) (z : Value) (s : Nat) (hu : P.underlying t = some (.slice e)) (hie : P.info? e = some ie) (hz : ie.zero = some z) (hs : ie.size = s) (hpos : 0 < s) (hsm : s ≤ 2 ^ 24)
    (hx : a.eval x = .agg cells) (hc : cells.size = s) (h : wpList P ops Q rest (a.put o.dst (.slice (some ⟨w.heap.size, 0, none⟩) 1 1)) (w.alloc (.cells cells e))) : wpList P ops Q (o :: rest) a w :=
  wpList_plain hg fun K hK => by
    have := step_build1 (ops := #[]) (E := True) (K := K) (Q := Q) hg t e x ho cells ie z s hu hie hz hs hpos hsm hx hc (hK _ _ h)
    rwa [if_pos (by simp [Region.wanted, hg])] at this
theorem val_appf {P : Program} {Q : Exit → Act → World → Prop} {o : Oper} {a : Act} {W : World} {R : Value → World → Prop} (_hg : o.guard = none) (s x : Operand) (t : TypeId) (hop : o.op = Op.call { callee := Callee.builtin Builtin.append, args := #[s, x], argTypes := #[t, t] })
    (e : TypeId) (i : TypeInfo) (z : Value) (sz bytes : Nat) (ht : P.underlying t = some (.slice e)) (hi : P.info? e = some i) (hz : i.zero = some z) (hs : i.size = sz) (hby : i.bytes = bytes) (hzs : z.cells.size = sz) (hsz : 0 < sz)
    (base B : Nat) (hb : base ≤ B) (hB : Blk W B e #[]) (hv : a.eval s = .slice (some ⟨B, 0, none⟩) 0 0) (A : Option Addr) (m c : Nat) (news : List Value) (hx : a.eval x = .slice A m c) (hrd : Rd W sz A m news)
    (h63 : m ≤ maxLen) (hbytes : m * bytes ≤ 140737488355328)
    (hR : ∀ v' w', AppZ w' base e sz v' m news → (m = 0 → v' = .slice (some ⟨B, 0, none⟩) 0 0 ∧ w' = W) → (0 < m → ∀ g, v'.ownBlock = some g → W.heap.size ≤ g ∧ g < w'.heap.size) → R v' w') : Val P Q o a W (fun v W' => Below W.heap.size W W' ∧ R v W') := fun K hK => by
  have key : ∃ v' w', (Builtin.append_ #[t, t] o.type #[.slice (some ⟨B, 0, none⟩) 0 0, .slice A m c]).run P W = .ok v' w' ∧ Below W.heap.size W w' ∧ R v' w' := by
    by_cases hm : m = 0
    · subst hm
      have hn : news = [] := List.eq_nil_of_length_eq_zero (by have := hrd.1; omega)
      subst hn
      exact ⟨_, _, run_append_zero W t o.type e i ht hi _ _ _ _ _ (Nat.le_refl _), Below.refl _ _, hR _ _ (.inl ⟨rfl, rfl, _, rfl, hb, hB.lt⟩) (fun _ => ⟨rfl, rfl⟩) (fun h => absurd h (by omega))⟩
    · obtain ⟨b, off, rfl, hc⟩ := hrd.2.2 (by omega)
      have hnews : ∀ j u, news[j]? = some u → W.cell? ((⟨b, off, none⟩ : Addr).add j) = some u := fun j u hj => by
        rw [show (⟨b, off, none⟩ : Addr).add j = ⟨b, off + j, none⟩ from by unfold Addr.add; split <;> simp_all]
        exact hc j u hj
      obtain ⟨v', w', hr, ho, hg'⟩ := run_append_arg_grows (P := P) W t o.type e i z sz bytes ht hi hz hs hby hzs hsz ⟨B, 0, none⟩ 0 0 [] (by simp) (by simp) ⟨b, off, none⟩ m c news hrd.1 hnews (by omega) (by omega) (by rw [Nat.zero_add]; exact hbytes)
      rw [Nat.zero_add, List.nil_append] at ho
      have hA : AppZ w' W.heap.size e sz v' m news := .inr ho
      exact ⟨v', w', hr, (Below.refl _ W).grown hg' (Nat.le_refl _) (fun k e => by cases e), hR v' w' (hA.mono (by have := hB.lt; omega)) (fun h => absurd h hm) (fun _ => hA.lt)⟩
  obtain ⟨v', w', hr, h3, h4⟩ := key
  unfold Oper.wp execOp
  simp only [hop, resolve, invoke, builtin, Sem.run_bind, Sem.run_pure, Result.andThen_ok, List.map_toArray, List.map_cons, List.map_nil, hv, hx, hr]
  exact hK v' w' ⟨h3, h4⟩
def spNil (base : Nat) : Spec := ⟨fun v W => ∃ B, base ≤ B ∧ v = .slice (some ⟨B, 0, none⟩) 0 0 ∧ Blk W B 26 #[], fun _ _ _ ⟨B, h0, h1, h2⟩ hb => ⟨B, h0, h1, h2.below hb h2.lt⟩⟩
def spApp (base n : Nat) (xs : List Value) : Spec := ⟨fun v W => AppZ W base 26 32 v n xs ∧ (n = 0 → ∃ B, v = .slice (some ⟨B, 0, none⟩) 0 0 ∧ Blk W B 26 #[]), fun _ _ _ h hb => ⟨h.1.below hb (Nat.le_refl _), fun h0 => by obtain ⟨B, h1, h2⟩ := h.2 h0; exact ⟨B, h1, h2.below hb h2.lt⟩⟩⟩
def Apart (n m : Nat) (v u : Value) : Prop := (0 < n ∨ 0 < m) → ∀ g, v.ownBlock = some g → u.ownBlock ≠ some g
def OwS (W : World) (v : Value) : Prop := ∀ g, v.ownBlock = some g → ∃ cur, Blk W g 26 cur
theorem OwS.below {W W' : World} {v : Value} (h : OwS W v) (hb : Below W.heap.size W W') : OwS W' v := fun g e => by obtain ⟨cur, hc⟩ := h g e; exact ⟨cur, hc.below hb hc.lt⟩
theorem OwS.off {W : World} {v : Value} {G T : Nat} {cs : Array Value} (h : OwS W v) (hG : Blk W G T cs) (hne : T ≠ 26) : some G ≠ v.ownBlock := fun e => by obtain ⟨cur, hc⟩ := h G e.symm; exact hG.ne hc hne rfl
theorem OwS.setRow {W : World} {v : Value} {G T : Nat} {cs u : Array Value} (h : OwS W v) (hG : Blk W G T cs) (hne : T ≠ 26) : OwS (W.setRow G u) v := fun g e => by
  obtain ⟨cur, hc⟩ := h g e
  exact ⟨cur, hc.keptIn ((KeptIn.refl (fun b => b ≠ G) W).setRow (g := G) (fun h => h rfl) u) (hc.ne hG hne.symm)⟩
theorem ows_of {W : World} {base n : Nat} {v : Value} {xs : List Value} (h : AppZ W base 26 32 v n xs) (z : n = 0 → ∃ B, v = .slice (some ⟨B, 0, none⟩) 0 0 ∧ Blk W B 26 #[]) : OwS W v := by
  rcases Nat.eq_zero_or_pos n with h0 | h0
  · obtain ⟨B, rfl, hB⟩ := z h0
    intro g e
    simp only [Value.ownBlock, Option.some.injEq] at e
    subst e
    exact ⟨_, hB⟩
  · exact h.row h0
theorem Apart.or {n m : Nat} {v u : Value} (h : Apart n m v u) (h0 : 0 < n ∨ 0 < m) : v.ownBlock = none ∨ v.ownBlock ≠ u.ownBlock := by
  cases e : v.ownBlock with
  | none => exact .inl rfl
  | some g => exact .inr fun e' => h h0 g e e'.symm
theorem Apart.symm {n m : Nat} {v u : Value} (h : Apart n m v u) : Apart m n u v := fun h0 g e1 e2 => h (h0.symm) g e2 e1
theorem trd_zero {W W' : World} {e : TypeId} {A : Option Addr} {n : Nat} {xs : List Value} (h : TRd W e 32 A n xs) (h0 : n = 0) : TRd W' e 32 A n xs := ⟨⟨h.1.1, h.1.2.1, fun hp => absurd hp (by omega)⟩, fun hp => absurd hp (by omega)⟩
def spBent (base : Nat) (i : Int) (n m : Nat) (ch pa : List Sum32) : Spec := ⟨fun v W => ∃ (C : Option Addr) (c : Nat) (D : Option Addr) (d : Nat), v = .agg (sgV i C n c D m d).toArray ∧ AppZ W base 26 32 (.slice C n c) n (ch.flatMap sumC) ∧ AppZ W base 26 32 (.slice D m d) m (pa.flatMap sumC) ∧ Apart n m (.slice C n c) (.slice D m d) ∧ OwS W (.slice C n c) ∧ OwS W (.slice D m d),
  fun _ _ _ ⟨C, c, D, d, h1, h2, h3, h4, h5, h6⟩ hb => ⟨C, c, D, d, h1, h2.below hb (Nat.le_refl _), h3.below hb (Nat.le_refl _), h4, h5.below hb, h6.below hb⟩⟩
def spVarB (T : TypeId) (Z : Array Value) (base : Nat) : Spec := ⟨fun v W => ∃ B, v = .pointer (some ⟨B, 0, none⟩) ∧ base ≤ B ∧ Blk W B T Z, fun _ _ _ ⟨B, h1, h0, h2⟩ hb => ⟨B, h1, h0, h2.below hb h2.lt⟩⟩
theorem apart_nil {W : World} {base n B : Nat} {v : Value} {xs : List Value} (h : AppZ W base 26 32 v n xs) (hn : 0 < n) (hB : Blk W B 26 #[]) : v.ownBlock ≠ some B := fun e => by
  obtain ⟨A, c, rfl, hc, hr⟩ := h.rd
  obtain ⟨b, off, rfl, hcell⟩ := hr.2.2 hn
  simp only [Value.ownBlock, Option.some.injEq] at e
  subst e
  have hl := hr.1
  have := hcell 0 xs[0] (List.getElem?_eq_getElem (by omega))
  rw [hB.cell] at this
  cases this
theorem apart_of {W : World} {base n m : Nat} {v u : Value} {xs ys : List Value} (h1 : AppZ W base 26 32 v n xs) (h2 : AppZ W base 26 32 u m ys) (z1 : n = 0 → ∃ B, v = .slice (some ⟨B, 0, none⟩) 0 0 ∧ Blk W B 26 #[]) (z2 : m = 0 → ∃ B, u = .slice (some ⟨B, 0, none⟩) 0 0 ∧ Blk W B 26 #[]) (ha : ∀ B, blkF v = some B → blkF u ≠ some B) : Apart n m v u := by
  intro hor g hv hu
  rcases Nat.eq_zero_or_pos n with h | h
  · obtain ⟨B, rfl, hB⟩ := z1 h
    simp only [Value.ownBlock, Option.some.injEq] at hv
    subst hv
    exact apart_nil h2 (by omega) hB hu
  rcases Nat.eq_zero_or_pos m with h' | h'
  · obtain ⟨B, rfl, hB⟩ := z2 h'
    simp only [Value.ownBlock, Option.some.injEq] at hu
    subst hu
    exact apart_nil h1 h hB hv
  obtain ⟨A, c, rfl, _, r1⟩ := h1.rd
  obtain ⟨A', c', rfl, _, r2⟩ := h2.rd
  obtain ⟨b, o, rfl, _⟩ := r1.2.2 h
  obtain ⟨b', o', rfl, _⟩ := r2.2.2 h'
  obtain ⟨n, rfl⟩ := Nat.exists_eq_succ_of_ne_zero (show n ≠ 0 by omega)
  obtain ⟨m, rfl⟩ := Nat.exists_eq_succ_of_ne_zero (show m ≠ 0 by omega)
  exact ha g hv hu
theorem appz_le {W : World} {base e sz n c : Nat} {A : Option Addr} {xs : List Value} (h : AppZ W base e sz (.slice A n c) n xs) : n ≤ c := by
  obtain ⟨A', c', e, h, _⟩ := h.rd
  injection e with _ _ e
  omega
theorem trd_set {W : World} {e n b o p : Nat} {xs : List Value} {v : Value} (h : TRd W e 32 (some ⟨b, o, none⟩) n xs) (hn : 0 < n) (hp : p < xs.length) : TRd (W.setCell ⟨b, o + p, none⟩ v) e 32 (some ⟨b, o, none⟩) n (xs.set p v) := by
  obtain ⟨cur, hB⟩ := h.2 hn b o rfl
  have hB' := heap_setCell_same W b (o + p) cur e v hB
  obtain ⟨b', o', e', hc⟩ := h.1.2.2 hn
  cases e'
  refine ⟨⟨by rw [List.length_set]; exact h.1.1, h.1.2.1, fun _ => ⟨b, o, rfl, fun j u hu => ?_⟩⟩, fun _ b2 o2 e2 => by cases e2; exact ⟨_, hB'⟩⟩
  have hB'' : Blk (W.setCell ⟨b, o + p, none⟩ v) b e (cur.setIfInBounds (o + p) v) := hB'
  rw [hB''.cell, Array.getElem?_setIfInBounds]
  rw [List.getElem?_set] at hu
  by_cases hj : p = j
  · subst hj
    rw [if_pos rfl, if_pos hp] at hu
    have hc1 := hc p xs[p] (List.getElem?_eq_getElem hp)
    rw [hB.cell] at hc1
    rw [if_pos rfl, if_pos (Array.getElem?_eq_some_iff.1 hc1).1]
    exact hu
  · rw [if_neg hj] at hu
    rw [if_neg (by omega), ← hB.cell]
    exact hc j u hu
theorem flat_byte : ∀ (xs : List Sum32) (p : Nat), p < 32 * xs.length → ∃ x : UInt8, (xs.flatMap sumC)[p]? = some (byteV x)
  | [], p, h => by simp at h
  | x :: xs, p, h => by
    rw [List.flatMap_cons]
    by_cases hp : p < 32
    · have hl : p < x.1.length := by rw [x.2]; exact hp
      refine ⟨x.1[p], ?_⟩
      rw [List.getElem?_append_left (by rw [sumC_len]; exact hp)]
      unfold sumC
      rw [List.getElem?_map, List.getElem?_eq_getElem hl]; rfl
    · rw [List.getElem?_append_right (by rw [sumC_len]; omega), sumC_len]
      exact flat_byte xs (p - 32) (by simp at h; omega)
theorem flat_setB : ∀ (xs : List Sum32) (p : Nat) (b : UInt8), p < 32 * xs.length → ∃ ys : List Sum32, ys.length = xs.length ∧ (xs.flatMap sumC).set p (byteV b) = ys.flatMap sumC
  | [], p, _, h => by simp at h
  | x :: xs, p, b, h => by
    rw [List.flatMap_cons]
    by_cases hp : p < 32
    · refine ⟨(⟨x.1.set p b, by rw [List.length_set, x.2]⟩ : Sum32) :: xs, rfl, ?_⟩
      rw [List.set_append_left _ _ (by rw [sumC_len]; exact hp)]
      show _ = (x.1.set p b).map byteV ++ xs.flatMap sumC
      congr 1
      show (x.1.map byteV).set p (byteV b) = _
      rw [List.map_set]
    · obtain ⟨ys, h1, h2⟩ := flat_setB xs (p - 32) b (by simp at h; omega)
      refine ⟨x :: ys, by rw [List.length_cons, List.length_cons, h1], ?_⟩
      rw [List.set_append_right _ _ (by rw [sumC_len]; omega), sumC_len, h2, List.flatMap_cons]
theorem run_slice_tail (b off n c : Nat) (hn : 0 < n) (hc : n ≤ c) : ∃ A' : Option Addr, (∀ w, (Instr.slice 35 (.slice (some ⟨b, off, none⟩) n c) (some (.int .i64 1)) none none).run Tryd.prog w = .ok (.slice A' (n - 1) (c - 1)) w) ∧ (1 < n → A' = some ⟨b, off + 32, none⟩) := by
  by_cases h : 1 < n
  · refine ⟨some ⟨b, off + 32, none⟩, fun w => ?_, fun _ => rfl⟩
    have := run_slice_sums b off n c 1 h hc w
    rwa [Nat.one_mul] at this
  · obtain ⟨iE, hi'⟩ : ∃ i, Tryd.prog.info? 26 = some i := by
      have := size32'
      unfold Program.cellsOf at this
      cases h : Tryd.prog.info? 26 with
      | none => simp [h] at this
      | some i => exact ⟨i, rfl⟩
    refine ⟨(if c = 1 then some ⟨b, off, none⟩ else some ⟨b, off + 32, none⟩), fun w => ?_, fun h' => absurd h' h⟩
    rw [run_slice_l (P := Tryd.prog) w 35 _ n c und27 .i64 1 (by omega) (by omega), elem27, run_sizeOf w hi', size32']
    have hadd : (⟨b, off, none⟩ : Addr).add 32 = ⟨b, off + 32, none⟩ := by unfold Addr.add; split <;> simp_all
    by_cases h1 : c - 1 = 0
    · have : c = 1 := by omega
      subst this
      simp [sliced]
    · simp [sliced, hadd]
theorem trd_tail {W : World} {e n b o : Nat} {xs : List Sum32} (h : TRd W e 32 (some ⟨b, o, none⟩) n (xs.flatMap sumC)) (hn : 0 < n) : ∀ A' : Option Addr, (1 < n → A' = some ⟨b, o + 32, none⟩) → TRd W e 32 A' (n - 1) (xs.tail.flatMap sumC) := by
  intro A' hA
  have hl := h.1.lenf sumC_len (by omega)
  rcases xs with _ | ⟨x, xs⟩
  · simp at hl; omega
  obtain ⟨cur, hB⟩ := h.2 hn b o rfl
  obtain ⟨b', o', e', hc⟩ := h.1.2.2 hn
  cases e'
  simp only [List.length_cons] at hl
  refine ⟨⟨?_, by have := h.1.2.1; omega, fun hp => ⟨b, o + 32, hA (by omega), fun j u hu => ?_⟩⟩, fun hp b2 o2 e2 => by rw [hA (by omega)] at e2; cases e2; exact ⟨cur, hB⟩⟩
  · rw [List.tail_cons, flat_length sumC_len]; congr 1; omega
  · have := hc (32 + j) u (by rw [List.flatMap_cons, List.getElem?_append_right (by rw [sumC_len]; omega), sumC_len, Nat.add_sub_cancel_left]; exact hu)
    rwa [← Nat.add_assoc] at this
theorem trd_off {w w' : World} {e sz n cb : Nat} {A : Option Addr} {xs : List Value} (h : TRd w e sz A n xs) (hk : KeptIn (fun b => b ≠ cb) w w') (hne : ∀ b off, 0 < n → A = some ⟨b, off, none⟩ → b ≠ cb) : TRd w' e sz A n xs :=
  ⟨h.1.keptIn hk (fun b off hn e => hne b off hn e), fun hn b off e => by obtain ⟨cur, hc⟩ := h.2 hn b off e; exact ⟨cur, hc.keptIn hk (hne b off hn e)⟩⟩

def BentR (e : Ending) (w' : World) : Prop := ∃ (i' : Int) (C' : Option Addr) (n' c' : Nat) (D' : Option Addr) (m' d' : Nat) (ch' pa' : List Sum32), e = .returned (.agg (sgV i' C' n' c' D' m' d').toArray) ∧ n' ≤ c' ∧ m' ≤ d' ∧ n' ≤ 1001 ∧ m' ≤ 1001 ∧ TRd w' 26 32 C' n' (ch'.flatMap sumC) ∧ TRd w' 26 32 D' m' (pa'.flatMap sumC)
set_option maxRecDepth 100000 in
set_option maxHeartbeats 4000000 in
theorem bent_any (i : Int) (C D : Option Addr) (n c m d : Nat) (ch pa : List Sum32) (b0 b1 b2 : UInt8) (w : World) (hch : Rd w 32 C n (ch.flatMap sumC)) (hpa : Rd w 32 D m (pa.flatMap sumC)) (hn : n ≤ 1000) (hm : m ≤ 1000) :
    Calls Tryd.prog 18 #[.agg (sgV i C n c D m d).toArray, .agg #[byteV b0, byteV b1, byteV b2]] w fun e w' => BentR e w' ∧ Below w.heap.size w w' := by
  obtain ⟨i32, hi32, hz32, hs32, hy32⟩ := info_parts info32
  obtain ⟨i37, hi37, hz37, _, _⟩ := info_parts info37
  obtain ⟨i28, hi28, hz28, _, _⟩ := info_parts info28
  obtain ⟨i39, hi39, hz39, _, _⟩ := info_parts info39
  obtain ⟨d28, hd28, hrow28⟩ := und28
  obtain ⟨d37, hd37, hrow37⟩ := und37
  obtain ⟨d39, hd39, hrow39⟩ := und39
  have h0l := b0.toNat_lt
  have h1l := b1.toNat_lt
  unfold byteV
  go_enter Tryd.func18, Tryd.ntmps18
  go_upto_region 1 with (refine wpList_alloc0 rfl 37 rfl (sgV 0 none 0 0 none 0 0).toArray _ i37 hi37 hz37 rfl ?_; simp only [Act.put, List.setIfInBounds_toArray, List.set_cons_succ, List.set_cons_zero])
  obtain ⟨w1, hw1⟩ : ∃ v, v = ((w.alloc (.cells (sgV i C n c D m d).toArray 37)).alloc (.cells #[.int .u8 (b0.toNat : Int), .int .u8 (b1.toNat : Int), .int .u8 (b2.toNat : Int)] 43)).alloc (.cells (sgV 0 none 0 0 none 0 0).toArray 37) := ⟨_, rfl⟩
  have hB1 : Below w.heap.size w w1 := by rw [hw1]; exact (((Below.refl _ _).alloc (Nat.le_refl _) _).alloc (by simp) _).alloc (by simp; omega) _
  have hX2 : Blk w1 w.heap.size 37 (sgV i C n c D m d).toArray := by rw [hw1]; exact ((Blk.new _ _ _).alloc _).alloc _
  have hX3 : Blk w1 (w.heap.size + 1) 43 #[.int .u8 (b0.toNat : Int), .int .u8 (b1.toNat : Int), .int .u8 (b2.toNat : Int)] := by
    have := Blk.new (w.alloc (.cells (sgV i C n c D m d).toArray 37)) 43 #[.int .u8 (b0.toNat : Int), .int .u8 (b1.toNat : Int), .int .u8 (b2.toNat : Int)]
    rw [World.size_alloc] at this
    rw [hw1]; exact this.alloc _
  have hX4 : Blk w1 (w.heap.size + 1 + 1) 37 (sgV 0 none 0 0 none 0 0).toArray := by
    have := Blk.new ((w.alloc (.cells (sgV i C n c D m d).toArray 37)).alloc (.cells #[.int .u8 (b0.toNat : Int), .int .u8 (b1.toNat : Int), .int .u8 (b2.toNat : Int)] 43)) 37 (sgV 0 none 0 0 none 0 0).toArray
    rw [World.size_alloc, World.size_alloc] at this
    rw [hw1]; exact this
  try simp only [World.size_alloc]
  rw [← hw1]
  clear hw1
  have HX2 := Lib.hid hX2
  have HX3 := Lib.hid hX3
  have HX4 := Lib.hid hX4
  have HB1 := Lib.hid hB1
  have Hch := Lib.hid (hch.below hB1)
  have Hpa := Lib.hid (hpa.below hB1)
  have hs1 : w.heap.size + 1 + 1 < w1.heap.size := hX4.lt
  clear hX2 hX3 hX4 hB1 hch hpa
  refine wp_region_flowI_tail 12 [7, 8, 9, 10, 11, 12, 13, 14, 15, 16, 17, 5] [(Spec.is (.pointer (some ⟨w.heap.size, 0, none⟩)), false), (Spec.is (.int .i64 i), false), (spNil w1.heap.size, false), (Spec.is (.pointer (some ⟨w.heap.size, 1, none⟩)), false), (Spec.is (.slice C n c), false), (spApp w1.heap.size n (ch.flatMap sumC), true), (spNil w1.heap.size, false), (Spec.is (.pointer (some ⟨w.heap.size, 2, none⟩)), false), (Spec.is (.slice D m d), false), (spApp w1.heap.size m (pa.flatMap sumC), true), (spBent w1.heap.size i n m ch pa, false), (spVarB 37 (sgV 0 none 0 0 none 0 0).toArray w1.heap.size, false)] 109 (by kernel_rfl) (List.take_append_drop _ _) rfl (by kernel_rfl) (by kernel_rfl) (by kernel_rfl) (by decide) (by kernel_rfl) (by kernel_rfl) (fun _ _ d _ _ h => by cases d <;> exact h) rfl (by decide) rfl (by decide) (by kernel_rfl) ?_ ?_
  · refine ⟨?_, ?_, ?_, ?_, ?_, ?_, ?_, ?_, ?_, ?_, ?_, ?_, trivial⟩
    · intro a W hE hb hs ha
      have h2 : a.eval (.tmp 2) = .pointer (some ⟨w.heap.size, 0, none⟩) := hb 2 (by decide)
      refine flow0 rfl ?_
      intro K hK
      unfold Oper.wp execOp
      simp only [h2]
      simp [go_sem]
      exact hK _ _ ⟨Below.refl _ _, rfl, trivial⟩
    · intro a W hE hb hs ha
      have h7 : a.eval (.tmp 7) = .pointer (some ⟨w.heap.size, 0, none⟩) := hs 0 (by decide)
      refine flow0 rfl ?_
      have g0 : W.cell? ⟨w.heap.size, 0, none⟩ = some (.int .i64 i) := by rw [(HX2.out.below (ext_below hE) HX2.out.lt).cell]; rfl
      intro K hK
      unfold Oper.wp execOp
      simp only [h7]
      simp [go_sem, g0]
      exact hK _ _ ⟨Below.refl _ _, rfl, trivial⟩
    · intro a W hE hb hs ha
      refine flow0 rfl ?_
      exact val_nil rfl nil35 ⟨⟨W.heap.size, (ext_below hE).size, rfl, Blk.new _ _ _⟩, trivial⟩
    · intro a W hE hb hs ha
      have h2 : a.eval (.tmp 2) = .pointer (some ⟨w.heap.size, 0, none⟩) := hb 2 (by decide)
      refine flow0 rfl ?_
      intro K hK
      unfold Oper.wp execOp
      simp only [h2]
      simp [go_sem]
      exact hK _ _ ⟨Below.refl _ _, rfl, trivial⟩
    · intro a W hE hb hs ha
      have h10 : a.eval (.tmp 10) = .pointer (some ⟨w.heap.size, 1, none⟩) := hs 3 (by decide)
      refine flow0 rfl ?_
      have g0 : W.cell? ⟨w.heap.size, 1, none⟩ = some (.slice C n c) := by rw [(HX2.out.below (ext_below hE) HX2.out.lt).cell]; rfl
      intro K hK
      unfold Oper.wp execOp
      simp only [h10]
      simp [go_sem, g0]
      exact hK _ _ ⟨Below.refl _ _, rfl, trivial⟩
    · intro a W hE hb hs ha
      have h9 : ∃ B, w1.heap.size ≤ B ∧ (a.eval (.tmp 9)) = .slice (some ⟨B, 0, none⟩) 0 0 ∧ Blk W B 26 #[] := hs 2 (by decide)
      have h11 : a.eval (.tmp 11) = .slice C n c := hs 4 (by decide)
      refine flow0 rfl ?_
      obtain ⟨B, hB0, e9, hB⟩ := h9
      refine val_appf rfl _ _ _ rfl 26 i32 (.agg zero32) 32 32 Tryd.underlying35 hi32 hz32 hs32 hy32 rfl (by omega) w1.heap.size B hB0 hB e9 C n c (ch.flatMap sumC) h11 (Hch.out.below (ext_below hE)) (by unfold maxLen; omega) (by omega) ?_
      intro v' w' h1 h2 h3
      refine ⟨⟨h1, fun h0 => ?_⟩, fun g hg => ?_⟩
      · obtain ⟨q1, q2⟩ := h2 h0; exact ⟨B, q1, by rw [q2]; exact hB⟩
      · obtain ⟨A2, c2, rfl, _, _⟩ := h1.rd
        have hpos : 0 < n := Nat.pos_of_ne_zero (fun h => by rw [h] at hg; cases A2 <;> cases hg)
        exact h3 hpos g (blkF_own hg)
    · intro a W hE hb hs ha
      refine flow0 rfl ?_
      exact val_nil rfl nil35 ⟨⟨W.heap.size, (ext_below hE).size, rfl, Blk.new _ _ _⟩, trivial⟩
    · intro a W hE hb hs ha
      have h2 : a.eval (.tmp 2) = .pointer (some ⟨w.heap.size, 0, none⟩) := hb 2 (by decide)
      refine flow0 rfl ?_
      intro K hK
      unfold Oper.wp execOp
      simp only [h2]
      simp [go_sem]
      exact hK _ _ ⟨Below.refl _ _, rfl, trivial⟩
    · intro a W hE hb hs ha
      have h14 : a.eval (.tmp 14) = .pointer (some ⟨w.heap.size, 2, none⟩) := hs 7 (by decide)
      refine flow0 rfl ?_
      have g0 : W.cell? ⟨w.heap.size, 2, none⟩ = some (.slice D m d) := by rw [(HX2.out.below (ext_below hE) HX2.out.lt).cell]; rfl
      intro K hK
      unfold Oper.wp execOp
      simp only [h14]
      simp [go_sem, g0]
      exact hK _ _ ⟨Below.refl _ _, rfl, trivial⟩
    · intro a W hE hb hs ha
      have h13 : ∃ B, w1.heap.size ≤ B ∧ (a.eval (.tmp 13)) = .slice (some ⟨B, 0, none⟩) 0 0 ∧ Blk W B 26 #[] := hs 6 (by decide)
      have h15 : a.eval (.tmp 15) = .slice D m d := hs 8 (by decide)
      refine flow0 rfl ?_
      obtain ⟨B, hB0, e13, hB⟩ := h13
      refine val_appf rfl _ _ _ rfl 26 i32 (.agg zero32) 32 32 Tryd.underlying35 hi32 hz32 hs32 hy32 rfl (by omega) w1.heap.size B hB0 hB e13 D m d (pa.flatMap sumC) h15 (Hpa.out.below (ext_below hE)) (by unfold maxLen; omega) (by omega) ?_
      intro v' w' h1 h2 h3
      refine ⟨⟨h1, fun h0 => ?_⟩, fun g hg => ?_⟩
      · obtain ⟨q1, q2⟩ := h2 h0; exact ⟨B, q1, by rw [q2]; exact hB⟩
      · obtain ⟨A2, c2, rfl, _, _⟩ := h1.rd
        have hpos : 0 < m := Nat.pos_of_ne_zero (fun h => by rw [h] at hg; cases A2 <;> cases hg)
        exact h3 hpos g (blkF_own hg)
    · intro a W hE hb hs ha
      have h8 : a.eval (.tmp 8) = .int .i64 i := hs 1 (by decide)
      have h12 : AppZ W w1.heap.size 26 32 (a.eval (.tmp 12)) n (ch.flatMap sumC) ∧ (n = 0 → ∃ B, (a.eval (.tmp 12)) = .slice (some ⟨B, 0, none⟩) 0 0 ∧ Blk W B 26 #[]) := hs 5 (by decide)
      have h16 : AppZ W w1.heap.size 26 32 (a.eval (.tmp 16)) m (pa.flatMap sumC) ∧ (m = 0 → ∃ B, (a.eval (.tmp 16)) = .slice (some ⟨B, 0, none⟩) 0 0 ∧ Blk W B 26 #[]) := hs 9 (by decide)
      refine flow0 rfl ?_
      obtain ⟨ha12, hz12⟩ := h12
      obtain ⟨ha16, hz16⟩ := h16
      have hap := ha 5 (by decide) 9 (by decide) (by decide) rfl rfl
      have hap' : ∀ B, blkF (a.eval (.tmp 12)) = some B → blkF (a.eval (.tmp 16)) ≠ some B := hap
      have q := apart_of ha12 ha16 hz12 hz16 hap'
      have o1 := ows_of ha12 hz12
      have o2 := ows_of ha16 hz16
      obtain ⟨C', c', e12, hc', _⟩ := ha12.rd
      obtain ⟨D', d', e16, hd', _⟩ := ha16.rd
      rw [e12] at ha12 q o1
      rw [e16] at ha16 q o2
      exact val_build 37 _ rfl [(0, .int .i64 i), (1, .slice C' n c'), (2, .slice D' m d')] (by show [(0, a.eval (.tmp 8)), (1, a.eval (.tmp 12)), (2, a.eval (.tmp 16))] = _; rw [h8, e12, e16]) _ (built37f _ _ _ _ _ _ _) ⟨⟨C', c', D', d', rfl, ha12, ha16, q, o1, o2⟩, trivial⟩
    · intro a W hE hb hs ha
      refine flow0 rfl ?_
      exact val_alloc _ rfl (sgV 0 none 0 0 none 0 0).toArray _ i37 hi37 hz37 rfl ⟨⟨_, rfl, (ext_below hE).size, Blk.new _ _ _⟩, trivial⟩
  · intro f W hb hT hp hd
    obtain ⟨G, e5, hG0, hG⟩ : ∃ B, f 5 = .pointer (some ⟨B, 0, none⟩) ∧ w1.heap.size ≤ B ∧ Blk W B 37 (sgV 0 none 0 0 none 0 0).toArray := hT 11 (by decide)
    obtain ⟨C1, c1, D1, d1, e17, hC, hD, hap, ho1, ho2⟩ : ∃ (C : Option Addr) (c : Nat) (D : Option Addr) (d : Nat), f 17 = .agg (sgV i C n c D m d).toArray ∧ AppZ W w1.heap.size 26 32 (.slice C n c) n (ch.flatMap sumC) ∧ AppZ W w1.heap.size 26 32 (.slice D m d) m (pa.flatMap sumC) ∧ Apart n m (.slice C n c) (.slice D m d) ∧ OwS W (.slice C n c) ∧ OwS W (.slice D m d) := hT 10 (by decide)
    simp only [putV, List.foldl_cons, List.foldl_nil, Act.put, List.setIfInBounds_toArray, List.set_cons_succ, List.set_cons_zero]
    rw [e5, e17]
    refine wpList_store_row rfl 37 (.tmp 5) (.tmp 17) rfl G (sgV i C1 n c1 D1 m d1).toArray rfl rfl 37 _ hG (size37 _ rfl) rfl (sg_one _ _ _ _ _ _ _) ?_
    obtain ⟨w2, hw2⟩ : ∃ v, v = W.setRow G (sgV i C1 n c1 D1 m d1).toArray := ⟨_, rfl⟩
    have hG2 : Blk w2 G 37 (sgV i C1 n c1 D1 m d1).toArray := by rw [hw2]; exact setRow_heap _ _ _ _ _ _ hG
    have hC2 : AppZ w2 w1.heap.size 26 32 (.slice C1 n c1) n (ch.flatMap sumC) := by rw [hw2]; exact hC.setRow hG (by decide)
    have hD2 : AppZ w2 w1.heap.size 26 32 (.slice D1 m d1) m (pa.flatMap sumC) := by rw [hw2]; exact hD.setRow hG (by decide)
    have hB2 : Below w1.heap.size w1 w2 := by rw [hw2]; exact Below.setRow hb hG0 _
    rw [← hw2]
    have hnc := appz_le hC2
    have hmd := appz_le hD2
    have HG := Lib.hid hG2
    have HC := Lib.hid hC2
    have HD := Lib.hid hD2
    have HB2 := Lib.hid hB2
    have Hap := Lib.hid hap
    have HoC := Lib.hid (show OwS w2 (.slice C1 n c1) by rw [hw2]; exact ho1.setRow hG (by decide))
    have HoD := Lib.hid (show OwS w2 (.slice D1 m d1) by rw [hw2]; exact ho2.setRow hG (by decide))
    replace HX3 := Lib.hid (HX3.out.below hB2 HX3.out.lt)
    replace HX4 := Lib.hid (HX4.out.below hB2 HX4.out.lt)
    have c0 : w2.cell? ⟨w.heap.size + 1, 0, none⟩ = some (.int .u8 (b0.toNat : Int)) := by rw [HX3.out.cell]; rfl
    have cc1 : w2.cell? ⟨w.heap.size + 1, 1, none⟩ = some (.int .u8 (b1.toNat : Int)) := by rw [HX3.out.cell]; rfl
    have hk1 : IntKind.i64.wrap (b1.toNat : Int) = (b1.toNat : Int) := by simp [IntKind.wrap, IntKind.bits, IntKind.signed]; omega
    obtain ⟨k, hk⟩ : ∃ k : Nat, k = b1.toNat := ⟨_, rfl⟩
    rw [← hk] at cc1 hk1 h1l
    clear hb hT hp hd hG hC hD hw2 e5 e17 hG2 hC2 hD2 hB2 hap ho1 ho2 hk Hch Hpa HX2
    obtain ⟨q, hq⟩ : ∃ q : Nat, q = b0.toNat % 6 := ⟨_, rfl⟩
    have hq1 : ((b0.toNat : Int) % 6) = (q : Int) := by omega
    have hq2 : (b0.toNat : Int).tmod 6 = (q : Int) := by rw [Int.tmod_eq_emod_of_nonneg (by omega)]; exact hq1
    have h6 : q = 0 ∨ q = 1 ∨ q = 2 ∨ q = 3 ∨ q = 4 ∨ q = 5 := by omega
    clear hq
    go_upto_region 3 with fail
    iterate 13 (first | go_values | go_skip | go_guarded | go_step | go_upon | go_back | go_simp)
    clear hq1 hq2
    go_cut [] from 24 to 107 (fun wx => ∃ (i' : Int) (C' : Option Addr) (n' c' : Nat) (D' : Option Addr) (m' d' : Nat) (ch' pa' : List Sum32), Blk wx G 37 (sgV i' C' n' c' D' m' d').toArray ∧ n' ≤ c' ∧ m' ≤ d' ∧ n' ≤ 1001 ∧ m' ≤ 1001 ∧ TRd wx 26 32 C' n' (ch'.flatMap sumC) ∧ TRd wx 26 32 D' m' (pa'.flatMap sumC) ∧ Blk wx (w.heap.size + 1 + 1) 37 (sgV 0 none 0 0 none 0 0).toArray ∧ Below w1.heap.size w1 wx)
    case first =>
      rcases h6 with rfl | rfl | rfl | rfl | rfl | rfl
      · have g1 : w2.cell? ⟨G, 1, none⟩ = some (.slice C1 n c1) := by rw [HG.out.cell]; rfl
        have g2 : w2.cell? ⟨G, 2, none⟩ = some (.slice D1 m d1) := by rw [HG.out.cell]; rfl
        by_cases hpos : 0 < n
        rotate_left
        · have dd : decide ((n : Int) > 0) = false := decide_eq_false (by omega)
          have dd' : decide ((0 : Int) < (n : Int)) = false := decide_eq_false (by omega)
          go_wp2_with fail
          go_meet
          exact ⟨i, _, n, c1, _, m, d1, ch, pa, HG.out, hnc, hmd, by omega, by omega, HC.out.trd, HD.out.trd, HX4.out, HB2.out⟩
        have dd : decide ((n : Int) > 0) = true := decide_eq_true (by omega)
        have dd' : decide ((0 : Int) < (n : Int)) = true := decide_eq_true (by omega)
        obtain ⟨A0, c0, e0, hc0, hrd⟩ := HC.out.rd
        injection e0 with e1 e2 e3
        subst e1 e3
        obtain ⟨cb, co, rfl, hcc⟩ := hrd.2.2 hpos
        obtain ⟨j, hj⟩ : ∃ j, j = k % n := ⟨_, rfl⟩
        obtain ⟨r, hr⟩ : ∃ r, r = k % 32 := ⟨_, rfl⟩
        have hjl : j < n := by rw [hj]; exact Nat.mod_lt _ hpos
        have hrl : r < 32 := by omega
        have tm : (k : Int).tmod (n : Int) = (j : Int) := by rw [Int.tmod_eq_emod_of_nonneg (by omega), hj]; push_cast; rfl
        have tr : (k : Int).tmod 32 = (r : Int) := by rw [Int.tmod_eq_emod_of_nonneg (by omega), hr]; push_cast; rfl
        have nz : ¬ ((n : Int) = 0) := by omega
        have nz' : ¬ (n = 0) := by omega
        have hjn : (j : Int) < (n : Int) := by omega
        have hj0 : (0 : Int) ≤ (j : Int) := by omega
        have hr32 : (r : Int) < 32 := by omega
        have hr0 : (0 : Int) ≤ (r : Int) := by omega
        obtain ⟨x, hx1⟩ := flat_byte ch (j * 32 + r) (by have := hrd.lenf sumC_len (by omega); omega)
        have hxx := hcc _ _ hx1
        have Hx := Lib.hid (show ∀ W, Below w2.heap.size w2 W → W.cell? ⟨cb, co + j * 32 + r, none⟩ = some (byteV x) from fun W hW => by have h := (hrd.below hW).2.2 hpos; obtain ⟨b', o', e, hc⟩ := h; cases e; rw [Nat.add_assoc]; exact hc _ _ hx1)
        have hxor : bits .xor .u8 (x.toNat : Int) (b2.toNat : Int) = ((x ^^^ b2).toNat : Int) := w8x_xor x b2
        obtain ⟨ys, hyl, hys⟩ := flat_setB ch (j * 32 + r) (x ^^^ b2) (by have := hrd.lenf sumC_len (by omega); omega)
        have htr := HC.out.trd
        obtain ⟨cur, hcur⟩ := htr.2 hpos cb co rfl
        clear hj hr hx1 hxx hrd hcc
        go_upto_region 8 with fail
        refine wp_region_flow_tail 16 [38, 39, 40, 41, 42, 43, 44, 45, 46, 47, 48, 49, 50, 51, 52, 53] [(Spec.is (.pointer (some ⟨G, 1, none⟩)), false), (Spec.is (.slice (some ⟨cb, co, none⟩) n c1), false), (Spec.is (.int .i64 (k : Int)), false), (Spec.is (.pointer (some ⟨G, 1, none⟩)), false), (Spec.is (.slice (some ⟨cb, co, none⟩) n c1), false), (Spec.is (.int .i64 (n : Int)), false), (Spec.is (.int .i64 (j : Int)), false), (Spec.is (.int .i64 (k : Int)), false), (Spec.is (.int .i64 (r : Int)), false), (Spec.is (.pointer (some ⟨cb, co + j * 32, none⟩)), false), (Spec.is (.pointer (some ⟨cb, co + j * 32 + r, none⟩)), false), (Spec.is (.int .u8 (x.toNat : Int)), false), (Spec.is (.pointer (some ⟨(w.heap.size + 1), 2, none⟩)), false), (Spec.is (.int .u8 (b2.toNat : Int)), false), (Spec.is (.int .u8 ((x ^^^ b2).toNat : Int)), false), (Spec.is (.pointer (some ⟨cb, co + j * 32, none⟩)), false)] 109 (by kernel_rfl) (List.take_append_drop _ _) rfl (by kernel_rfl) (by kernel_rfl) (by kernel_rfl) (by decide) (by kernel_rfl) (by kernel_rfl) (fun _ _ d _ _ h => by cases d <;> exact h) rfl (by decide) rfl (by decide) (by kernel_rfl) ?_ ?_
        · refine ⟨?_, ?_, ?_, ?_, ?_, ?_, ?_, ?_, ?_, ?_, ?_, ?_, ?_, ?_, ?_, ?_, trivial⟩
          · intro a W hE hb hs
            have h5 : a.eval (.tmp 5) = .pointer (some ⟨G, 0, none⟩) := hb 5 (by decide)
            refine flow0 rfl ?_
            intro K hK
            unfold Oper.wp execOp
            simp only [h5]
            simp [go_sem]
            exact hK _ _ ⟨Below.refl _ _, rfl, trivial⟩
          · intro a W hE hb hs
            have h38 : a.eval (.tmp 38) = .pointer (some ⟨G, 1, none⟩) := hs 0 (by decide)
            refine flow0 rfl ?_
            have g0 : W.cell? ⟨G, 1, none⟩ = some (.slice (some ⟨cb, co, none⟩) n c1) := by rw [(HG.out.below (ext_below hE) HG.out.lt).cell]; rfl
            intro K hK
            unfold Oper.wp execOp
            simp only [h38]
            simp [go_sem, g0]
            exact hK _ _ ⟨Below.refl _ _, rfl, trivial⟩
          · intro a W hE hb hs
            have h6 : a.eval (.tmp 6) = .int .i64 (k : Int) := hb 6 (by decide)
            refine flow0 rfl ?_
            exact val_move _ rfl _ h6 ⟨rfl, trivial⟩
          · intro a W hE hb hs
            have h5 : a.eval (.tmp 5) = .pointer (some ⟨G, 0, none⟩) := hb 5 (by decide)
            refine flow0 rfl ?_
            intro K hK
            unfold Oper.wp execOp
            simp only [h5]
            simp [go_sem]
            exact hK _ _ ⟨Below.refl _ _, rfl, trivial⟩
          · intro a W hE hb hs
            have h41 : a.eval (.tmp 41) = .pointer (some ⟨G, 1, none⟩) := hs 3 (by decide)
            refine flow0 rfl ?_
            have g0 : W.cell? ⟨G, 1, none⟩ = some (.slice (some ⟨cb, co, none⟩) n c1) := by rw [(HG.out.below (ext_below hE) HG.out.lt).cell]; rfl
            intro K hK
            unfold Oper.wp execOp
            simp only [h41]
            simp [go_sem, g0]
            exact hK _ _ ⟨Below.refl _ _, rfl, trivial⟩
          · intro a W hE hb hs
            have h42 : a.eval (.tmp 42) = .slice (some ⟨cb, co, none⟩) n c1 := hs 4 (by decide)
            refine flow0 rfl ?_
            exact val_len _ 35 26 rfl undSS _ _ _ h42 ⟨rfl, trivial⟩
          · intro a W hE hb hs
            have h40 : a.eval (.tmp 40) = .int .i64 (k : Int) := hs 2 (by decide)
            have h43 : a.eval (.tmp 43) = .int .i64 (n : Int) := hs 5 (by decide)
            refine flow0 rfl ?_
            intro K hK
            unfold Oper.wp execOp
            simp only [h40, h43]
            simp [go_sem, tm, nz']
            exact hK _ _ ⟨Below.refl _ _, rfl, trivial⟩
          · intro a W hE hb hs
            have h6 : a.eval (.tmp 6) = .int .i64 (k : Int) := hb 6 (by decide)
            refine flow0 rfl ?_
            exact val_move _ rfl _ h6 ⟨rfl, trivial⟩
          · intro a W hE hb hs
            have h45 : a.eval (.tmp 45) = .int .i64 (k : Int) := hs 7 (by decide)
            refine flow0 rfl ?_
            intro K hK
            unfold Oper.wp execOp
            simp only [h45, BigFrame.eval_const]
            simp [go_sem, tr]
            exact hK _ _ ⟨Below.refl _ _, rfl, trivial⟩
          · intro a W hE hb hs
            have h39 : a.eval (.tmp 39) = .slice (some ⟨cb, co, none⟩) n c1 := hs 1 (by decide)
            have h44 : a.eval (.tmp 44) = .int .i64 (j : Int) := hs 6 (by decide)
            refine flow0 rfl ?_
            intro K hK
            unfold Oper.wp execOp
            simp only [h39, h44]
            simp [go_sem, hjn, hj0]
            exact hK _ _ ⟨Below.refl _ _, rfl, trivial⟩
          · intro a W hE hb hs
            have h47 : a.eval (.tmp 47) = .pointer (some ⟨cb, co + j * 32, none⟩) := hs 9 (by decide)
            have h46 : a.eval (.tmp 46) = .int .i64 (r : Int) := hs 8 (by decide)
            refine flow0 rfl ?_
            intro K hK
            unfold Oper.wp execOp
            simp only [h47, h46]
            simp [go_sem, hr32, hr0]
            exact hK _ _ ⟨Below.refl _ _, rfl, trivial⟩
          · intro a W hE hb hs
            have h48 : a.eval (.tmp 48) = .pointer (some ⟨cb, co + j * 32 + r, none⟩) := hs 10 (by decide)
            refine flow0 rfl ?_
            have g0 : W.cell? ⟨cb, co + j * 32 + r, none⟩ = some (.int .u8 (x.toNat : Int)) := Hx.out W (ext_below hE)
            intro K hK
            unfold Oper.wp execOp
            simp only [h48]
            simp [go_sem, g0]
            exact hK _ _ ⟨Below.refl _ _, rfl, trivial⟩
          · intro a W hE hb hs
            have h3 : a.eval (.tmp 3) = .pointer (some ⟨(w.heap.size + 1), 0, none⟩) := hb 3 (by decide)
            refine flow0 rfl ?_
            intro K hK
            unfold Oper.wp execOp
            simp only [h3, BigFrame.eval_const]
            simp [go_sem]
            exact hK _ _ ⟨Below.refl _ _, rfl, trivial⟩
          · intro a W hE hb hs
            have h50 : a.eval (.tmp 50) = .pointer (some ⟨(w.heap.size + 1), 2, none⟩) := hs 12 (by decide)
            refine flow0 rfl ?_
            have g0 : W.cell? ⟨(w.heap.size + 1), 2, none⟩ = some (.int .u8 (b2.toNat : Int)) := by rw [(HX3.out.below (ext_below hE) HX3.out.lt).cell]; rfl
            intro K hK
            unfold Oper.wp execOp
            simp only [h50]
            simp [go_sem, g0]
            exact hK _ _ ⟨Below.refl _ _, rfl, trivial⟩
          · intro a W hE hb hs
            have h49 : a.eval (.tmp 49) = .int .u8 (x.toNat : Int) := hs 11 (by decide)
            have h51 : a.eval (.tmp 51) = .int .u8 (b2.toNat : Int) := hs 13 (by decide)
            refine flow0 rfl ?_
            intro K hK
            unfold Oper.wp execOp
            simp only [h49, h51]
            simp [go_sem, hxor]
            exact hK _ _ ⟨Below.refl _ _, rfl, trivial⟩
          · intro a W hE hb hs
            have h39 : a.eval (.tmp 39) = .slice (some ⟨cb, co, none⟩) n c1 := hs 1 (by decide)
            have h44 : a.eval (.tmp 44) = .int .i64 (j : Int) := hs 6 (by decide)
            refine flow0 rfl ?_
            intro K hK
            unfold Oper.wp execOp
            simp only [h39, h44]
            simp [go_sem, hjn, hj0]
            exact hK _ _ ⟨Below.refl _ _, rfl, trivial⟩
        intro f W hb hT hp hd
        have ev : f 52 = .int .u8 ((x ^^^ b2).toNat : Int) := hT 14 (by decide)
        have ep : f 53 = .pointer (some ⟨cb, co + j * 32, none⟩) := hT 15 (by decide)
        have er : f 46 = .int .i64 (r : Int) := hT 8 (by decide)
        simp only [putV, List.foldl_cons, List.foldl_nil, Act.put, List.setIfInBounds_toArray, List.set_cons_succ, List.set_cons_zero]
        rw [ev, ep, er]
        have hcurW := hcur.below hb hcur.lt
        have frc := hcurW.frozen (co + j * 32 + r)
        have gc := Hx.out W hb
        have h1 := trd_set (v := byteV (x ^^^ b2)) (htr.below hb) hpos (p := j * 32 + r) (by rw [flat_length sumC_len]; have := htr.1.lenf sumC_len (by omega); omega)
        rw [hys, ← Nat.add_assoc] at h1
        have hne : ∀ b off, 0 < m → D1 = some ⟨b, off, none⟩ → b ≠ cb := fun b off _ e0 e1 => by subst e0; subst e1; exact Hap.out (.inl hpos) _ rfl rfl
        have h2 := (HD.out.trd.below hb)
        have hkc := (KeptIn.refl (fun b => b ≠ cb) W).setAt (p := ⟨cb, co + j * 32 + r, none⟩) (fun h => h rfl) (byteV (x ^^^ b2))
        have h3 := trd_off h2 hkc hne
        have hGW := HG.out.below hb HG.out.lt
        have hG3 := hGW.keptIn hkc (hGW.ne hcurW (by decide))
        have hX4W := HX4.out.below hb HX4.out.lt
        have hX43 := hX4W.keptIn hkc (hX4W.ne hcurW (by decide))
        have hlb : w1.heap.size ≤ cb := (HC.out.lt cb rfl).1
        have hB3 : Below w1.heap.size w1 (W.setCell ⟨cb, co + j * 32 + r, none⟩ (byteV (x ^^^ b2))) := Below.setCell (HB2.out.trans (hb.mono HB2.out.size)) hlb _
        have H1 := Lib.hid h1
        have H3 := Lib.hid h3
        have HG3 := Lib.hid hG3
        have HX43 := Lib.hid hX43
        have HB3 := Lib.hid hB3
        clear h1 h2 h3 hkc hGW hG3 hX4W hX43 hB3 hb hT hp hd ev ep er hne hcur htr
        unfold byteV at H1 H3 HG3 HX43 HB3 gc
        go_wp2_with fail
        go_meet
        exact ⟨i, _, n, c1, _, m, d1, ys, pa, HG3.out, hnc, hmd, by omega, by omega, H1.out, H3.out, HX43.out, HB3.out⟩
      · have g1 : w2.cell? ⟨G, 1, none⟩ = some (.slice C1 n c1) := by rw [HG.out.cell]; rfl
        have g2 : w2.cell? ⟨G, 2, none⟩ = some (.slice D1 m d1) := by rw [HG.out.cell]; rfl
        by_cases hpos : 0 < m
        rotate_left
        · have dd : decide ((m : Int) > 0) = false := decide_eq_false (by omega)
          have dd' : decide ((0 : Int) < (m : Int)) = false := decide_eq_false (by omega)
          go_wp2_with fail
          go_meet
          exact ⟨i, _, n, c1, _, m, d1, ch, pa, HG.out, hnc, hmd, by omega, by omega, HC.out.trd, HD.out.trd, HX4.out, HB2.out⟩
        have dd : decide ((m : Int) > 0) = true := decide_eq_true (by omega)
        have dd' : decide ((0 : Int) < (m : Int)) = true := decide_eq_true (by omega)
        obtain ⟨A0, c0, e0, hc0, hrd⟩ := HD.out.rd
        injection e0 with e1 e2 e3
        subst e1 e3
        obtain ⟨cb, co, rfl, hcc⟩ := hrd.2.2 hpos
        obtain ⟨j, hj⟩ : ∃ j, j = k % m := ⟨_, rfl⟩
        obtain ⟨r, hr⟩ : ∃ r, r = k % 32 := ⟨_, rfl⟩
        have hjl : j < m := by rw [hj]; exact Nat.mod_lt _ hpos
        have hrl : r < 32 := by omega
        have tm : (k : Int).tmod (m : Int) = (j : Int) := by rw [Int.tmod_eq_emod_of_nonneg (by omega), hj]; push_cast; rfl
        have tr : (k : Int).tmod 32 = (r : Int) := by rw [Int.tmod_eq_emod_of_nonneg (by omega), hr]; push_cast; rfl
        have nz : ¬ ((m : Int) = 0) := by omega
        have nz' : ¬ (m = 0) := by omega
        have hjn : (j : Int) < (m : Int) := by omega
        have hj0 : (0 : Int) ≤ (j : Int) := by omega
        have hr32 : (r : Int) < 32 := by omega
        have hr0 : (0 : Int) ≤ (r : Int) := by omega
        obtain ⟨x, hx1⟩ := flat_byte pa (j * 32 + r) (by have := hrd.lenf sumC_len (by omega); omega)
        have hxx := hcc _ _ hx1
        have Hx := Lib.hid (show ∀ W, Below w2.heap.size w2 W → W.cell? ⟨cb, co + j * 32 + r, none⟩ = some (byteV x) from fun W hW => by have h := (hrd.below hW).2.2 hpos; obtain ⟨b', o', e, hc⟩ := h; cases e; rw [Nat.add_assoc]; exact hc _ _ hx1)
        have hxor : bits .xor .u8 (x.toNat : Int) (b2.toNat : Int) = ((x ^^^ b2).toNat : Int) := w8x_xor x b2
        obtain ⟨ys, hyl, hys⟩ := flat_setB pa (j * 32 + r) (x ^^^ b2) (by have := hrd.lenf sumC_len (by omega); omega)
        have htr := HD.out.trd
        obtain ⟨cur, hcur⟩ := htr.2 hpos cb co rfl
        clear hj hr hx1 hxx hrd hcc
        go_upto_region 11 with fail
        refine wp_region_flow_tail 16 [61, 62, 63, 64, 65, 66, 67, 68, 69, 70, 71, 72, 73, 74, 75, 76] [(Spec.is (.pointer (some ⟨G, 2, none⟩)), false), (Spec.is (.slice (some ⟨cb, co, none⟩) m d1), false), (Spec.is (.int .i64 (k : Int)), false), (Spec.is (.pointer (some ⟨G, 2, none⟩)), false), (Spec.is (.slice (some ⟨cb, co, none⟩) m d1), false), (Spec.is (.int .i64 (m : Int)), false), (Spec.is (.int .i64 (j : Int)), false), (Spec.is (.int .i64 (k : Int)), false), (Spec.is (.int .i64 (r : Int)), false), (Spec.is (.pointer (some ⟨cb, co + j * 32, none⟩)), false), (Spec.is (.pointer (some ⟨cb, co + j * 32 + r, none⟩)), false), (Spec.is (.int .u8 (x.toNat : Int)), false), (Spec.is (.pointer (some ⟨(w.heap.size + 1), 2, none⟩)), false), (Spec.is (.int .u8 (b2.toNat : Int)), false), (Spec.is (.int .u8 ((x ^^^ b2).toNat : Int)), false), (Spec.is (.pointer (some ⟨cb, co + j * 32, none⟩)), false)] 109 (by kernel_rfl) (List.take_append_drop _ _) rfl (by kernel_rfl) (by kernel_rfl) (by kernel_rfl) (by decide) (by kernel_rfl) (by kernel_rfl) (fun _ _ d _ _ h => by cases d <;> exact h) rfl (by decide) rfl (by decide) (by kernel_rfl) ?_ ?_
        · refine ⟨?_, ?_, ?_, ?_, ?_, ?_, ?_, ?_, ?_, ?_, ?_, ?_, ?_, ?_, ?_, ?_, trivial⟩
          · intro a W hE hb hs
            have h5 : a.eval (.tmp 5) = .pointer (some ⟨G, 0, none⟩) := hb 5 (by decide)
            refine flow0 rfl ?_
            intro K hK
            unfold Oper.wp execOp
            simp only [h5]
            simp [go_sem]
            exact hK _ _ ⟨Below.refl _ _, rfl, trivial⟩
          · intro a W hE hb hs
            have h61 : a.eval (.tmp 61) = .pointer (some ⟨G, 2, none⟩) := hs 0 (by decide)
            refine flow0 rfl ?_
            have g0 : W.cell? ⟨G, 2, none⟩ = some (.slice (some ⟨cb, co, none⟩) m d1) := by rw [(HG.out.below (ext_below hE) HG.out.lt).cell]; rfl
            intro K hK
            unfold Oper.wp execOp
            simp only [h61]
            simp [go_sem, g0]
            exact hK _ _ ⟨Below.refl _ _, rfl, trivial⟩
          · intro a W hE hb hs
            have h6 : a.eval (.tmp 6) = .int .i64 (k : Int) := hb 6 (by decide)
            refine flow0 rfl ?_
            exact val_move _ rfl _ h6 ⟨rfl, trivial⟩
          · intro a W hE hb hs
            have h5 : a.eval (.tmp 5) = .pointer (some ⟨G, 0, none⟩) := hb 5 (by decide)
            refine flow0 rfl ?_
            intro K hK
            unfold Oper.wp execOp
            simp only [h5]
            simp [go_sem]
            exact hK _ _ ⟨Below.refl _ _, rfl, trivial⟩
          · intro a W hE hb hs
            have h64 : a.eval (.tmp 64) = .pointer (some ⟨G, 2, none⟩) := hs 3 (by decide)
            refine flow0 rfl ?_
            have g0 : W.cell? ⟨G, 2, none⟩ = some (.slice (some ⟨cb, co, none⟩) m d1) := by rw [(HG.out.below (ext_below hE) HG.out.lt).cell]; rfl
            intro K hK
            unfold Oper.wp execOp
            simp only [h64]
            simp [go_sem, g0]
            exact hK _ _ ⟨Below.refl _ _, rfl, trivial⟩
          · intro a W hE hb hs
            have h65 : a.eval (.tmp 65) = .slice (some ⟨cb, co, none⟩) m d1 := hs 4 (by decide)
            refine flow0 rfl ?_
            exact val_len _ 35 26 rfl undSS _ _ _ h65 ⟨rfl, trivial⟩
          · intro a W hE hb hs
            have h63 : a.eval (.tmp 63) = .int .i64 (k : Int) := hs 2 (by decide)
            have h66 : a.eval (.tmp 66) = .int .i64 (m : Int) := hs 5 (by decide)
            refine flow0 rfl ?_
            intro K hK
            unfold Oper.wp execOp
            simp only [h63, h66]
            simp [go_sem, tm, nz']
            exact hK _ _ ⟨Below.refl _ _, rfl, trivial⟩
          · intro a W hE hb hs
            have h6 : a.eval (.tmp 6) = .int .i64 (k : Int) := hb 6 (by decide)
            refine flow0 rfl ?_
            exact val_move _ rfl _ h6 ⟨rfl, trivial⟩
          · intro a W hE hb hs
            have h68 : a.eval (.tmp 68) = .int .i64 (k : Int) := hs 7 (by decide)
            refine flow0 rfl ?_
            intro K hK
            unfold Oper.wp execOp
            simp only [h68, BigFrame.eval_const]
            simp [go_sem, tr]
            exact hK _ _ ⟨Below.refl _ _, rfl, trivial⟩
          · intro a W hE hb hs
            have h62 : a.eval (.tmp 62) = .slice (some ⟨cb, co, none⟩) m d1 := hs 1 (by decide)
            have h67 : a.eval (.tmp 67) = .int .i64 (j : Int) := hs 6 (by decide)
            refine flow0 rfl ?_
            intro K hK
            unfold Oper.wp execOp
            simp only [h62, h67]
            simp [go_sem, hjn, hj0]
            exact hK _ _ ⟨Below.refl _ _, rfl, trivial⟩
          · intro a W hE hb hs
            have h70 : a.eval (.tmp 70) = .pointer (some ⟨cb, co + j * 32, none⟩) := hs 9 (by decide)
            have h69 : a.eval (.tmp 69) = .int .i64 (r : Int) := hs 8 (by decide)
            refine flow0 rfl ?_
            intro K hK
            unfold Oper.wp execOp
            simp only [h70, h69]
            simp [go_sem, hr32, hr0]
            exact hK _ _ ⟨Below.refl _ _, rfl, trivial⟩
          · intro a W hE hb hs
            have h71 : a.eval (.tmp 71) = .pointer (some ⟨cb, co + j * 32 + r, none⟩) := hs 10 (by decide)
            refine flow0 rfl ?_
            have g0 : W.cell? ⟨cb, co + j * 32 + r, none⟩ = some (.int .u8 (x.toNat : Int)) := Hx.out W (ext_below hE)
            intro K hK
            unfold Oper.wp execOp
            simp only [h71]
            simp [go_sem, g0]
            exact hK _ _ ⟨Below.refl _ _, rfl, trivial⟩
          · intro a W hE hb hs
            have h3 : a.eval (.tmp 3) = .pointer (some ⟨(w.heap.size + 1), 0, none⟩) := hb 3 (by decide)
            refine flow0 rfl ?_
            intro K hK
            unfold Oper.wp execOp
            simp only [h3, BigFrame.eval_const]
            simp [go_sem]
            exact hK _ _ ⟨Below.refl _ _, rfl, trivial⟩
          · intro a W hE hb hs
            have h73 : a.eval (.tmp 73) = .pointer (some ⟨(w.heap.size + 1), 2, none⟩) := hs 12 (by decide)
            refine flow0 rfl ?_
            have g0 : W.cell? ⟨(w.heap.size + 1), 2, none⟩ = some (.int .u8 (b2.toNat : Int)) := by rw [(HX3.out.below (ext_below hE) HX3.out.lt).cell]; rfl
            intro K hK
            unfold Oper.wp execOp
            simp only [h73]
            simp [go_sem, g0]
            exact hK _ _ ⟨Below.refl _ _, rfl, trivial⟩
          · intro a W hE hb hs
            have h72 : a.eval (.tmp 72) = .int .u8 (x.toNat : Int) := hs 11 (by decide)
            have h74 : a.eval (.tmp 74) = .int .u8 (b2.toNat : Int) := hs 13 (by decide)
            refine flow0 rfl ?_
            intro K hK
            unfold Oper.wp execOp
            simp only [h72, h74]
            simp [go_sem, hxor]
            exact hK _ _ ⟨Below.refl _ _, rfl, trivial⟩
          · intro a W hE hb hs
            have h62 : a.eval (.tmp 62) = .slice (some ⟨cb, co, none⟩) m d1 := hs 1 (by decide)
            have h67 : a.eval (.tmp 67) = .int .i64 (j : Int) := hs 6 (by decide)
            refine flow0 rfl ?_
            intro K hK
            unfold Oper.wp execOp
            simp only [h62, h67]
            simp [go_sem, hjn, hj0]
            exact hK _ _ ⟨Below.refl _ _, rfl, trivial⟩
        intro f W hb hT hp hd
        have ev : f 75 = .int .u8 ((x ^^^ b2).toNat : Int) := hT 14 (by decide)
        have ep : f 76 = .pointer (some ⟨cb, co + j * 32, none⟩) := hT 15 (by decide)
        have er : f 69 = .int .i64 (r : Int) := hT 8 (by decide)
        simp only [putV, List.foldl_cons, List.foldl_nil, Act.put, List.setIfInBounds_toArray, List.set_cons_succ, List.set_cons_zero]
        rw [ev, ep, er]
        have hcurW := hcur.below hb hcur.lt
        have frc := hcurW.frozen (co + j * 32 + r)
        have gc := Hx.out W hb
        have h1 := trd_set (v := byteV (x ^^^ b2)) (htr.below hb) hpos (p := j * 32 + r) (by rw [flat_length sumC_len]; have := htr.1.lenf sumC_len (by omega); omega)
        rw [hys, ← Nat.add_assoc] at h1
        have hne : ∀ b off, 0 < n → C1 = some ⟨b, off, none⟩ → b ≠ cb := fun b off _ e0 e1 => by subst e0; subst e1; exact Hap.out (.inr hpos) _ rfl rfl
        have h2 := (HC.out.trd.below hb)
        have hkc := (KeptIn.refl (fun b => b ≠ cb) W).setAt (p := ⟨cb, co + j * 32 + r, none⟩) (fun h => h rfl) (byteV (x ^^^ b2))
        have h3 := trd_off h2 hkc hne
        have hGW := HG.out.below hb HG.out.lt
        have hG3 := hGW.keptIn hkc (hGW.ne hcurW (by decide))
        have hX4W := HX4.out.below hb HX4.out.lt
        have hX43 := hX4W.keptIn hkc (hX4W.ne hcurW (by decide))
        have hlb : w1.heap.size ≤ cb := (HD.out.lt cb rfl).1
        have hB3 : Below w1.heap.size w1 (W.setCell ⟨cb, co + j * 32 + r, none⟩ (byteV (x ^^^ b2))) := Below.setCell (HB2.out.trans (hb.mono HB2.out.size)) hlb _
        have H1 := Lib.hid h1
        have H3 := Lib.hid h3
        have HG3 := Lib.hid hG3
        have HX43 := Lib.hid hX43
        have HB3 := Lib.hid hB3
        clear h1 h2 h3 hkc hGW hG3 hX4W hX43 hB3 hb hT hp hd ev ep er hne hcur htr
        unfold byteV at H1 H3 HG3 HX43 HB3 gc
        go_wp2_with fail
        go_meet
        exact ⟨i, _, n, c1, _, m, d1, ch, ys, HG3.out, hnc, hmd, by omega, by omega, H3.out, H1.out, HX43.out, HB3.out⟩
      · have g0 : w2.cell? ⟨G, 0, none⟩ = some (.int .i64 i) := by rw [HG.out.cell]; rfl
        have g1 : w2.cell? ⟨G, 1, none⟩ = some (.slice C1 n c1) := by rw [HG.out.cell]; rfl
        have g2 : w2.cell? ⟨G, 2, none⟩ = some (.slice D1 m d1) := by rw [HG.out.cell]; rfl
        have gb : w2.cell? ⟨w.heap.size + 1, 2, none⟩ = some (.int .u8 (b2.toNat : Int)) := by rw [HX3.out.cell]; rfl
        have frG := HG.out.frozen 0
        have hY : IntKind.i64.wrap ((b2.toNat : Int) - 3) = (b2.toNat : Int) - 3 := by have := b2.toNat_lt; simp [IntKind.wrap, IntKind.bits, IntKind.signed]; omega
        have hY0 : IntKind.i64.wrap (b2.toNat : Int) = (b2.toNat : Int) := by have := b2.toNat_lt; simp [IntKind.wrap, IntKind.bits, IntKind.signed]; omega
        obtain ⟨X, hX⟩ : ∃ X, IntKind.i64.wrap (i + ((b2.toNat : Int) - 3)) = X := ⟨_, rfl⟩
        go_wp2_with fail
        go_meet
        have hk := (KeptIn.refl (fun b => b ≠ G) w2).setAt (p := ⟨G, 0, none⟩) (fun h => h rfl) (.int .i64 X)
        exact ⟨X, C1, n, c1, D1, m, d1, ch, pa, heap_setCell_same w2 G 0 _ 37 _ HG.out, hnc, hmd, by omega, by omega, HC.out.trd.kept HG.out (by decide) hk, HD.out.trd.kept HG.out (by decide) hk, HX4.out.keptIn hk (show w.heap.size + 1 + 1 ≠ G by omega), Below.setCell HB2.out hG0 _⟩
      · have g0 : w2.cell? ⟨G, 0, none⟩ = some (.int .i64 i) := by rw [HG.out.cell]; rfl
        have g1 : w2.cell? ⟨G, 1, none⟩ = some (.slice C1 n c1) := by rw [HG.out.cell]; rfl
        have g2 : w2.cell? ⟨G, 2, none⟩ = some (.slice D1 m d1) := by rw [HG.out.cell]; rfl
        have gb : w2.cell? ⟨w.heap.size + 1, 2, none⟩ = some (.int .u8 (b2.toNat : Int)) := by rw [HX3.out.cell]; rfl
        have hsW : w1.heap.size ≤ (w2.alloc (.cells (sumC (shaB b2)).toArray 26)).heap.size := by have := HB2.out.size; rw [World.size_alloc]; omega
        have Happ := Lib.hid (HD.out.alloc (.cells (sumC (shaB b2)).toArray 26))
        have Hrd := Lib.hid (rd32_one (Blk.new w2 26 (sumC (shaB b2)).toArray))
        have Hal := Lib.hid ((Below.refl w2.heap.size w2).alloc (Nat.le_refl _) (.cells (sumC (shaB b2)).toArray 26))
        have HownG := Lib.hid (HoD.out.off HG.out (by decide))
        have HownX := Lib.hid (HoD.out.off HX4.out (by decide))
        go_wp2_with (first | (refine wpList_buildN rfl 26 _ rfl [(0, .int .u8 (b2.toNat : Int))] rfl _ (builtSum1 _) ?_) | (refine wpList_build1s rfl 35 26 (.tmp 94) rfl (sumC (shaB b2)).toArray i32 _ 32 Tryd.underlying35 hi32 hz32 hs32 (by omega) (by omega) rfl (sum_size _) ?_) | (at_builtin; refine wpList_appz rfl (.tmp 91) (.tmp 95) 35 rfl 26 i32 (.agg zero32) 32 32 Tryd.underlying35 hi32 hz32 hs32 hy32 rfl (by omega) w1.heap.size hsW (.slice D1 m d1) _ _ rfl Happ.out (some ⟨w2.heap.size, 0, none⟩) 1 1 (sumC (shaB b2)) rfl Hrd.out (oneB _) (by unfold maxLen; omega) (by omega) ?_; intro v9 W9 ha9 hg9; have Hg9 := Lib.hid hg9; have Ha9 := Lib.hid ha9; obtain ⟨A9, c9, rfl, hc9, hr9⟩ := ha9.rd; have hGa := (HG.out.alloc (.cells (sumC (shaB b2)).toArray 26)).kept hg9 HownG.out; have frG9 := hGa.frozen 2; have gf9 : W9.cell? ⟨G, 2, none⟩ = some (.slice D1 m d1) := (by rw [hGa.cell]; rfl); have HGa := Lib.hid hGa; clear hg9 hr9 hGa))
        go_meet
        have hk := (KeptIn.refl (fun b => b ≠ G) W9).setAt (p := ⟨G, 2, none⟩) (fun h => h rfl) (.slice A9 (m + 1) c9)
        have hO9 : TRd W9 26 32 C1 n (ch.flatMap sumC) := by
          rcases Nat.eq_zero_or_pos n with h | h
          · exact trd_zero HC.out.trd h
          · exact ((HC.out.alloc _).kept Hg9.out (Hap.out.or (.inl h))).trd
        have hP9 : TRd W9 26 32 A9 (m + 1) ((pa ++ [(shaB b2)]).flatMap sumC) := by have := Ha9.out.trd; rwa [List.flatMap_append, show [(shaB b2)].flatMap sumC = sumC (shaB b2) by simp]
        have hX9 := (HX4.out.alloc (.cells (sumC (shaB b2)).toArray 26)).kept Hg9.out HownX.out
        have hB9 : Below w1.heap.size w1 W9 := (HB2.out.trans (Hal.out.mono HB2.out.size)).grown Hg9.out hsW (fun g e => (Happ.out.lt g e).1)
        exact ⟨i, C1, n, c1, A9, m + 1, c9, ch, pa ++ [(shaB b2)], heap_setCell_same W9 G 2 _ 37 _ HGa.out, hnc, hc9, by omega, by omega, hO9.kept HGa.out (by decide) hk, hP9.kept HGa.out (by decide) hk, hX9.keptIn hk (show w.heap.size + 1 + 1 ≠ G by omega), Below.setCell hB9 hG0 _⟩
      · have g0 : w2.cell? ⟨G, 0, none⟩ = some (.int .i64 i) := by rw [HG.out.cell]; rfl
        have g1 : w2.cell? ⟨G, 1, none⟩ = some (.slice C1 n c1) := by rw [HG.out.cell]; rfl
        have g2 : w2.cell? ⟨G, 2, none⟩ = some (.slice D1 m d1) := by rw [HG.out.cell]; rfl
        have gb : w2.cell? ⟨w.heap.size + 1, 2, none⟩ = some (.int .u8 (b2.toNat : Int)) := by rw [HX3.out.cell]; rfl
        have hsW : w1.heap.size ≤ (w2.alloc (.cells (sumC (shaB b2)).toArray 26)).heap.size := by have := HB2.out.size; rw [World.size_alloc]; omega
        have Happ := Lib.hid (HC.out.alloc (.cells (sumC (shaB b2)).toArray 26))
        have Hrd := Lib.hid (rd32_one (Blk.new w2 26 (sumC (shaB b2)).toArray))
        have Hal := Lib.hid ((Below.refl w2.heap.size w2).alloc (Nat.le_refl _) (.cells (sumC (shaB b2)).toArray 26))
        have HownG := Lib.hid (HoC.out.off HG.out (by decide))
        have HownX := Lib.hid (HoC.out.off HX4.out (by decide))
        go_wp2_with (first | (refine wpList_buildN rfl 26 _ rfl [(0, .int .u8 (b2.toNat : Int))] rfl _ (builtSum1 _) ?_) | (refine wpList_build1s rfl 35 26 (.tmp 104) rfl (sumC (shaB b2)).toArray i32 _ 32 Tryd.underlying35 hi32 hz32 hs32 (by omega) (by omega) rfl (sum_size _) ?_) | (at_builtin; refine wpList_appz rfl (.tmp 101) (.tmp 105) 35 rfl 26 i32 (.agg zero32) 32 32 Tryd.underlying35 hi32 hz32 hs32 hy32 rfl (by omega) w1.heap.size hsW (.slice C1 n c1) _ _ rfl Happ.out (some ⟨w2.heap.size, 0, none⟩) 1 1 (sumC (shaB b2)) rfl Hrd.out (oneB _) (by unfold maxLen; omega) (by omega) ?_; intro v9 W9 ha9 hg9; have Hg9 := Lib.hid hg9; have Ha9 := Lib.hid ha9; obtain ⟨A9, c9, rfl, hc9, hr9⟩ := ha9.rd; have hGa := (HG.out.alloc (.cells (sumC (shaB b2)).toArray 26)).kept hg9 HownG.out; have frG9 := hGa.frozen 1; have gf9 : W9.cell? ⟨G, 1, none⟩ = some (.slice C1 n c1) := (by rw [hGa.cell]; rfl); have HGa := Lib.hid hGa; clear hg9 hr9 hGa))
        go_meet
        have hk := (KeptIn.refl (fun b => b ≠ G) W9).setAt (p := ⟨G, 1, none⟩) (fun h => h rfl) (.slice A9 (n + 1) c9)
        have hO9 : TRd W9 26 32 D1 m (pa.flatMap sumC) := by
          rcases Nat.eq_zero_or_pos m with h | h
          · exact trd_zero HD.out.trd h
          · exact ((HD.out.alloc _).kept Hg9.out (Hap.out.symm.or (.inl h))).trd
        have hP9 : TRd W9 26 32 A9 (n + 1) ((ch ++ [(shaB b2)]).flatMap sumC) := by have := Ha9.out.trd; rwa [List.flatMap_append, show [(shaB b2)].flatMap sumC = sumC (shaB b2) by simp]
        have hX9 := (HX4.out.alloc (.cells (sumC (shaB b2)).toArray 26)).kept Hg9.out HownX.out
        have hB9 : Below w1.heap.size w1 W9 := (HB2.out.trans (Hal.out.mono HB2.out.size)).grown Hg9.out hsW (fun g e => (Happ.out.lt g e).1)
        exact ⟨i, A9, n + 1, c9, D1, m, d1, ch ++ [(shaB b2)], pa, heap_setCell_same W9 G 1 _ 37 _ HGa.out, hc9, hmd, by omega, by omega, hP9.kept HGa.out (by decide) hk, hO9.kept HGa.out (by decide) hk, hX9.keptIn hk (show w.heap.size + 1 + 1 ≠ G by omega), Below.setCell hB9 hG0 _⟩
      · have g1 : w2.cell? ⟨G, 1, none⟩ = some (.slice C1 n c1) := by rw [HG.out.cell]; rfl
        by_cases hpos : 0 < n
        rotate_left
        · have dd : decide ((n : Int) > 0) = false := decide_eq_false (by omega)
          have dd' : decide ((0 : Int) < (n : Int)) = false := decide_eq_false (by omega)
          go_wp2_with fail
          go_meet
          exact ⟨i, _, n, c1, _, m, d1, ch, pa, HG.out, hnc, hmd, by omega, by omega, HC.out.trd, HD.out.trd, HX4.out, HB2.out⟩
        have dd : decide ((n : Int) > 0) = true := decide_eq_true (by omega)
        have dd' : decide ((0 : Int) < (n : Int)) = true := decide_eq_true (by omega)
        obtain ⟨A0, c0, e0, hc0, hrd⟩ := HC.out.rd
        injection e0 with e1 e2 e3
        subst e1 e3
        obtain ⟨cb, co, rfl, hcc⟩ := hrd.2.2 hpos
        have frG := HG.out.frozen 1
        obtain ⟨A5, hsl, hA5⟩ := run_slice_tail cb co n c1 hpos hnc
        have Htl := Lib.hid (trd_tail HC.out.trd hpos A5 hA5)
        clear hA5
        clear hrd hcc hc0
        go_wp2_with fail
        go_meet
        have hk := (KeptIn.refl (fun b => b ≠ G) w2).setAt (p := ⟨G, 1, none⟩) (fun h => h rfl) (.slice A5 (n - 1) (c1 - 1))
        exact ⟨i, _, n - 1, c1 - 1, D1, m, d1, ch.tail, pa, heap_setCell_same w2 G 1 _ 37 _ HG.out, by omega, hmd, by omega, by omega, Htl.out.kept HG.out (by decide) hk, HD.out.trd.kept HG.out (by decide) hk, HX4.out.keptIn hk (show w.heap.size + 1 + 1 ≠ G by omega), Below.setCell HB2.out hG0 _⟩
    case rest =>
      obtain ⟨i2, C2, n2, c2, D2, m2, d2, ch2, pa2, hG3, q1, q2, q3, q4, hC3, hD3, hX3, hB3⟩ := hcut
      have HG3 := Lib.hid (Blk.range (cs := sgV i2 C2 n2 c2 D2 m2 d2) hG3)
      have HX3 := Lib.hid hX3
      have HB3 := Lib.hid (HB1.out.trans (hB3.mono HB1.out.size))
      have HC3 := Lib.hid hC3
      have HD3 := Lib.hid hD3
      clear hG3 hX3 hB3 hC3 hD3 c0 cc1
      go_wp2_with (first | (refine wpList_load_mid rfl 37 (.tmp 5) rfl G 0 rfl (sgV i2 C2 n2 c2 D2 m2 d2) d37 HG3.out hd37 hrow37 (by rw [sgV_len]; kernel_rfl) ?_) | (refine wpList_store_row rfl 37 (.tmp 4) (.tmp 108) rfl (w.heap.size + 1 + 1) (sgV i2 C2 n2 c2 D2 m2 d2).toArray rfl rfl 37 _ HX3.out (size37 _ rfl) rfl (sg_one _ _ _ _ _ _ _) ?_))
      have hkx := (KeptIn.refl (fun b => b ≠ w.heap.size + 1 + 1) wc).setRow (g := w.heap.size + 1 + 1) (fun h => h rfl) (sgV i2 C2 n2 c2 D2 m2 d2).toArray
      refine bodyPost_ret (results_cell_row rfl _ _ (w.heap.size + 1 + 1) 37 (sgV i2 C2 n2 c2 D2 m2 d2).toArray (0, 0) _ rfl (setRow_heap _ _ _ _ _ _ HX3.out) hd37 (by cases d37 <;> first | rfl | exact hrow37) (size37 _ rfl)) rfl ⟨⟨i2, C2, n2, c2, D2, m2, d2, ch2, pa2, rfl, q1, q2, q3, q4, HC3.out.kept HX3.out (by decide) hkx, HD3.out.kept HX3.out (by decide) hkx⟩, Below.setRow HB3.out (by omega) _⟩
end Go.Proofs.YtfdhiilhjfbehaaDoor
