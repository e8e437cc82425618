/- Package sign: the chunks of all keys. -/
import Derived.Test.YtfdhiilhjfbehaaDoorS6
namespace Go.Proofs.YtfdhiilhjfbehaaDoor
open Go.RowKit Go.Sort

theorem mkSlices (w : World) (K : Int) (N : Nat) (hK : K = (N : Int)) (hN : N ≤ 16) : (Instr.makeSlice 49 (.int .i64 K) (.int .i64 K)).run Tryd.prog w = .ok (.slice (some ⟨w.heap.size, 0, none⟩) N N) (w.alloc (.cells (List.replicate N (Value.slice none 0 0)).toArray 22)) := by
  subst hK
  obtain ⟨i0, hi0, hz0, hz1, hz2⟩ := info_parts info22
  rw [run_makeSlice w 49 22 i0 _ Tryd.underlying49 hi0 hz0 .i64 .i64 (N : Int) (N : Int) (by omega) (Int.le_refl _) (by rw [hz1]; omega) (by rw [hz2]; omega) (by omega)]
  rw [Int.toNat_natCast, hz1, Nat.mul_one]
  show Result.ok _ (w.alloc (.cells (madeCells #[Value.slice none 0 0] N) 22)) = _
  rw [made_one]
/-- What holds when the chunks of the first i keys are there. -/
structure KI (k : Sc) (N arr : Nat) (w3 : World) (i : Nat) (ds : List Deferred) (vs : List Sl) (W : World) : Prop where
  marks : MarksOk ds W
  lt : ∀ d ∈ ds, ∀ b, d.target = .collected b → w3.heap.size ≤ b ∧ b < W.heap.size
  blk : Blk W arr 22 (vs.map slV ++ List.replicate (N - i) (Value.slice none 0 0)).toArray
  ins : Ins W vs (keysS k.s i)
  kept : KeptIn (fun b => b < w3.heap.size ∧ b ≠ arr) w3 W
theorem KI.below {k : Sc} {N arr : Nat} {w3 W W' : World} {i : Nat} {ds : List Deferred} {vs : List Sl} (h : KI k N arr w3 i ds vs W) (hb : Below W.heap.size W W') (ha : arr < W.heap.size) : KI k N arr w3 i ds vs W' :=
  ⟨h.marks.off (KeptIn.of_below (S := fun b => b < W.heap.size) hb (fun _ h => h)) (fun d hd b e => (h.lt d hd b e).2), fun d hd b e => ⟨(h.lt d hd b e).1, Nat.lt_of_lt_of_le (h.lt d hd b e).2 hb.size⟩, h.blk.below hb ha, h.ins.below hb, h.kept.trans (KeptIn.of_below hb (fun _ hb2 => Nat.lt_of_lt_of_le hb2.1 h.kept.size))⟩
/-- The ends of the chains that were yielded. -/
def endsOf (pre : List Vp) : List UInt8 := pre.flatMap fun x => (stS x.2 15).1
theorem endsOf_snoc (pre : List Vp) (x : Vp) : endsOf (pre ++ [x]) = endsOf pre ++ (stS x.2 15).1 := by simp [endsOf]
theorem endsOf_vpL (k : Sc) (i : UInt8) : ∀ c, endsOf (vpL k i c) = chunkK k.s i c
  | 0 => rfl
  | c + 1 => by rw [vpL_succ, endsOf_snoc, endsOf_vpL k i c, chunkK]
theorem blk_nc {X Y : World} {B : Nat} {t : TypeId} {cs : Array Value} {row : Option Nat} (h : Blk X B t cs) (hg : X.grownBy Y row) (hr : ∀ r, row = some r → ∃ o : Obj, X.heap[r]? = some o ∧ o.isCells = false) : Blk Y B t cs := h.kept hg fun e => by
  obtain ⟨o, ho, hc⟩ := hr B e.symm
  unfold Blk at h
  rw [h] at ho
  cases ho
  cases hc
theorem ownsRow_nc {X Y : World} {base : Nat} {e : TypeId} {sz n : Nat} {v : Value} {xs : List Value} {row : Option Nat} (h : X.ownsRow base e sz v n xs) (hg : X.grownBy Y row) (hr : ∀ r, row = some r → ∃ o : Obj, X.heap[r]? = some o ∧ o.isCells = false) : Y.ownsRow base e sz v n xs := by
  refine h.kept hg ?_
  rcases h.2 with ⟨rfl, _⟩ | ⟨g, cap, cur, rfl, hb, hgg, _⟩
  · exact .inl rfl
  · refine .inr fun e2 => ?_
    obtain ⟨o, ho, hc⟩ := hr g e2.symm
    rw [hgg] at ho
    cases ho
    cases hc
theorem set_mid {α : Type} {l r : List α} {a b : α} {i : Nat} (h : l.length = i) : (l ++ a :: r).set i b = l ++ b :: r := by
  subst h
  rw [List.set_append_right _ _ (Nat.le_refl _), Nat.sub_self, List.set_cons_zero]
theorem TRd.keptIn {S : Nat → Prop} {w w' : World} {e : TypeId} {sz n : Nat} {A : Option Addr} {xs : List Value} (h : TRd w e sz A n xs) (hk : KeptIn S w w') (hS : ∀ b cur, Blk w b e cur → S b) : TRd w' e sz A n xs :=
  ⟨h.1.keptIn hk (fun b off hn eA => by obtain ⟨cur, hc⟩ := h.2 hn b off eA; exact hS b cur hc), fun hn b off eA => by obtain ⟨cur, hc⟩ := h.2 hn b off eA; exact ⟨cur, hc.keptIn hk (hS b cur hc)⟩⟩
theorem Ins.keptIn {S : Nat → Prop} {w w' : World} {vs : List Sl} {cs : List (List UInt8)} (h : Ins w vs cs) (hk : KeptIn S w w') (hS : ∀ b cur, Blk w b 5 cur → S b) : Ins w' vs cs := ⟨h.1, fun k v c hv hc => ⟨(h.2 k v c hv hc).1.keptIn hk hS, (h.2 k v c hv hc).2⟩⟩
theorem MarksOk.offb {W : World} {b : Nat} {t : TypeId} {cur : Array Value} (hb : Blk W b t cur) : ∀ {ds : List Deferred}, MarksOk ds W → offMarks ds b
  | [], _ => fun d hd => by cases hd
  | d :: ds, ⟨D, h1, h2, h3, h4⟩ => fun d' hd' e => by
    rcases List.mem_cons.1 hd' with rfl | hd'
    · rw [h1] at e
      cases e
      unfold Blk at hb
      rw [hb] at h2
      cases h2
    · exact MarksOk.offb hb h4 d' hd' e
theorem ins_one {V : World} {base n : Nat} {v : Sl} {bs : List UInt8} (hrow : V.ownsRow base 5 1 (slV v) n (bs.map byteV)) : Ins V [v] [bs] := by
  obtain ⟨A', c', e⟩ := ownsRow_slice hrow
  rw [e] at hrow
  have ht := TRd.of_own hrow
  have hc := ownsRow_cap hrow
  obtain ⟨va, vn, vc⟩ := v
  have e' : Value.slice va vn vc = .slice A' n c' := e
  injection e' with e1 e2 e3
  subst e1 e2 e3
  refine ⟨rfl, fun j v c hv hc2 => ?_⟩
  cases j with
  | zero =>
    simp only [List.getElem?_cons_zero, Option.some.injEq] at hv hc2
    subst hv; subst hc2
    exact ⟨ht, hc⟩
  | succ j => simp at hv
/-- In the round for the i-th key. -/
def KR (N arr i : Nat) (vs : List Sl) (W2 : World) (pre : List Vp) (W : World) : Prop :=
  ∃ v : Sl, Blk W arr 22 (vs.map slV ++ slV v :: List.replicate (N - (i + 1)) (Value.slice none 0 0)).toArray ∧ W.ownsRow W2.heap.size 5 1 (slV v) (32 * pre.length) ((endsOf pre).map byteV) ∧ KeptIn (fun b => b < W2.heap.size ∧ b ≠ arr) W2 W
theorem KR.sz {N arr i : Nat} {vs : List Sl} {W2 : World} {pre : List Vp} {W : World} (h : KR N arr i vs W2 pre W) : W2.heap.size ≤ W.heap.size := by obtain ⟨v, _, _, h3⟩ := h; exact h3.size
theorem KR.kept {N arr i : Nat} {vs : List Sl} {W2 : World} {pre : List Vp} {W : World} (h : KR N arr i vs W2 pre W) : KeptIn (fun b => b < W2.heap.size ∧ b ≠ arr) W2 W := by obtain ⟨v, _, _, h3⟩ := h; exact h3
theorem kr_own {N arr i : Nat} {vs : List Sl} {W2 : World} (_ha : arr < W2.heap.size) : OwnFrom W2.heap.size (KR N arr i vs W2) := fun _ X Y row ⟨v, h1, h2, h3⟩ hg hr =>
  ⟨v, blk_nc h1 hg (fun r e => (hr r e).2), ownsRow_nc h2 hg (fun r e => (hr r e).2), ownFrom_keptIn (w := W2) (S := fun b => b < W2.heap.size ∧ b ≠ arr) (β := Unit) (fun _ hk => hk.1) (fun _ hk => hk.1) () X Y row h3 hg hr⟩
set_option maxRecDepth 100000 in
set_option maxHeartbeats 1000000 in
theorem keys_any (k : Sc) (H : Nat) (hH : k.h = (H : Int)) (h4 : H ≤ 4) (w : World) (hg : Globs w) :
    Calls Tryd.prog 36 #[.agg (secV k).toArray] w fun e w' => (∃ (A : Option Addr) (vs : List Sl), e = .returned (.slice A (2 ^ H) (2 ^ H)) ∧ Rd w' 1 A (2 ^ H) (vs.map slV) ∧ Ins w' vs (keysS k.s (2 ^ H))) ∧ Below w.heap.size w w' := by
  obtain ⟨i0, hi0, hz0, hz1, hz2⟩ := info_parts info5
  obtain ⟨i32, hi32, hz32, _, _⟩ := info_parts info32
  obtain ⟨d28, hd28, hrow28⟩ := und28
  obtain ⟨N, hN⟩ : ∃ N, N = 2 ^ H := ⟨_, rfl⟩
  have hN16 : N ≤ 16 := by rw [hN]; exact Nat.pow_le_pow_right (n := 2) (i := H) (j := 4) (by omega) h4
  have hN1 : 1 ≤ N := by rw [hN]; exact Nat.one_le_two_pow
  have hsh : wrap64 ((2 : Int) ^ H) = (N : Int) := by
    rw [pow_shl H h4, ← hN]; unfold wrap64; omega
  have hmk := fun w : World => mkSlices w (wrap64 ((2 : Int) ^ H)) N hsh hN16
  have hmk2 := fun w : World => mkSlices w (N : Int) N rfl hN16
  rw [← hN]
  have hsec := sec_h k
  rw [hH] at hsec
  have Hg := Lib.hid hg
  clear hg hN hH
  refine callsIn_wide.1 (callsIn_of_wp_marks (n := 3) Tryd.func36 rfl trivial (wpIn_wide.2 ?_) rfl)
  simp only [Tryd.ntmps36, List.size_toArray, List.length_cons, List.length_nil, Nat.reduceAdd, Nat.reduceSub, Array.replicate_succ, Array.replicate_zero, List.push_toArray, List.append_toArray, List.nil_append, List.cons_append]
  go_upto_region 1 with fail
  obtain ⟨w1, hw1⟩ : ∃ w1, w1 = w.alloc (.cells (secV k).toArray 28) := ⟨_, rfl⟩
  have hX1 : Blk w1 w.heap.size 28 (secV k).toArray := by rw [hw1]; exact Blk.new _ _ _
  have hB1 : Below w.heap.size w w1 := by rw [hw1]; exact (Below.refl _ _).alloc (Nat.le_refl _) _
  have hs1 : w1.heap.size = w.heap.size + 1 := by rw [hw1]; simp
  rw [← hw1]
  clear hw1
  have c32 : w1.cell? ⟨w.heap.size, 32, none⟩ = some (.int .i64 (H : Int)) := by rw [hX1.cell, List.getElem?_toArray]; exact hsec
  go_upto_region 2 with fail
  go_wp2_with fail
  obtain ⟨w3, hw3⟩ : ∃ v, v = (w1.alloc (.cells (Array.replicate N (Value.slice none 0 0)) 22)).alloc (.cells #[.slice (some ⟨w.heap.size + 1, 0, none⟩) N N] 49) := ⟨_, rfl⟩
  have hs3 : w3.heap.size = w.heap.size + 3 := by rw [hw3]; simp; omega
  have hb3 : Below w1.heap.size w1 w3 := by rw [hw3]; exact ((Below.refl _ _).alloc (Nat.le_refl _) _).alloc (by simp) _
  have hA3 : Blk w3 (w.heap.size + 1) 22 (List.replicate N (Value.slice none 0 0)).toArray := by
    have := Blk.new w1 22 (Array.replicate N (Value.slice none 0 0))
    rw [hs1] at this
    rw [hw3, List.toArray_replicate]; exact this.alloc _
  have hO3 : Blk w3 (w.heap.size + 2) 49 #[.slice (some ⟨w.heap.size + 1, 0, none⟩) N N] := by
    have := Blk.new (w1.alloc (.cells (Array.replicate N (Value.slice none 0 0)) 22)) 49 #[.slice (some ⟨w.heap.size + 1, 0, none⟩) N N]
    rw [World.size_alloc, hs1] at this
    rw [hw3]; exact this
  rw [← hw3]
  clear hw3
  have HX3 := Lib.hid (hX1.below hb3 hX1.lt)
  have HO3 := Lib.hid hO3
  have HB3 := Lib.hid (hB1.trans (hb3.mono hB1.size))
  have hki : KI k N (w.heap.size + 1) w3 0 [] [] w3 := ⟨trivial, (fun d hd => by cases hd), by simpa using hA3, ⟨rfl, fun j v c h => by simp at h⟩, KeptIn.refl _ _⟩
  have Hki := Lib.hid hki
  clear hA3 hO3 hb3 hX1 hB1 hki c32 hmk hmk2 hsh
  refine wp_loop (fun a W => ∃ (i : Nat) (ds : List Deferred) (vs : List Sl) (u4 u15 u16 u17 u18 u19 u33 : Value), a = { tmps := #[.agg (secV k).toArray, .pointer (some ⟨w.heap.size, 0, none⟩), .slice none 0 0, .pointer (some ⟨w.heap.size + 1 + 1, 0, none⟩), u4, undef, undef, undef, .pointer (some ⟨w.heap.size, 32, none⟩), .int .i64 (H : Int), .int .i64 (wrap64 ((2 : Int) ^ H)), .slice (some ⟨w.heap.size + 1, 0, none⟩) N N, .slice (some ⟨w.heap.size + 1, 0, none⟩) N N, .int .i64 (N : Int), .int .i64 (i : Int), u15, u16, u17, u18, u19, undef, undef, undef, undef, undef, undef, undef, undef, undef, undef, undef, undef, undef, u33, undef], defers := ds } ∧ i ≤ N ∧ KI k N (w.heap.size + 1) w3 i ds vs W) (fun a _ => N - (intOf (a.tmps.getD 14 undef)).toNat) ⟨0, [], [], undef, undef, undef, undef, undef, undef, undef, rfl, by omega, Hki.out⟩ ?_
  rintro a W ⟨i, ds, vs, u4, u15, u16, u17, u18, u19, u33, rfl, hi, hki⟩
  clear Hki
  have Hki := Lib.hid hki
  clear hki
  by_cases hlt : i < N
  rotate_left
  · obtain rfl : i = N := by omega
    have d0 : decide ((i : Int) < (i : Int)) = false := decide_eq_false (by omega)
    have d1 : decide (i < i) = false := decide_eq_false hlt
    have co : W.cell? ⟨w.heap.size + 1 + 1, 0, none⟩ = some (.slice (some ⟨w.heap.size + 1, 0, none⟩) i i) := (Hki.out.kept.cell (p := ⟨w.heap.size + 1 + 1, 0, none⟩) (show w.heap.size + 1 + 1 < w3.heap.size ∧ w.heap.size + 1 + 1 ≠ w.heap.size + 1 from ⟨by omega, by omega⟩)).trans (by rw [HO3.out.cell]; rfl)
    clear hlt
    go_wp2_with fail
    refine leaves_marks ds W Hki.out.marks (fun W' hW' => ?_)
    have hoff : ∀ b, b < w3.heap.size → offMarks ds b := fun b hb d hd e => by have := (Hki.out.lt d hd b e).1; omega
    have hvl : vs.length = i := by rw [Hki.out.ins.1, keysS_len]
    have hblk := Hki.out.blk
    rw [Nat.sub_self, List.replicate_zero, List.append_nil] at hblk
    have hrd := (hblk.keptIn hW' (hoff _ (by omega))).rd (by rw [List.length_map, hvl]; omega)
    rw [List.length_map, hvl] at hrd
    refine ⟨_, results_tmp rfl _ _ _, ⟨some ⟨w.heap.size + 1, 0, none⟩, vs, rfl, hrd, Hki.out.ins.keptIn hW' (fun b cur hb => Hki.out.marks.offb hb)⟩, ?_⟩
    exact (HB3.out.trans ((Hki.out.kept.below (B := w.heap.size) (fun b hb => ⟨by omega, by omega⟩)))).trans (hW'.below (B := w.heap.size) (fun b hb => hoff b (by omega)))
  have d0 : decide ((i : Int) < (N : Int)) = true := decide_eq_true (by omega)
  go_upto_region 5 with fail
  obtain ⟨W1, hW1⟩ : ∃ v, v = W.alloc (.cells #[.int .i64 (i : Int)] 3) := ⟨_, rfl⟩
  have hbW1 : Below W.heap.size W W1 := by rw [hW1]; exact (Below.refl _ _).alloc (Nat.le_refl _) _
  have hI1 : Blk W1 W.heap.size 3 #[.int .i64 (i : Int)] := by rw [hW1]; exact Blk.new _ _ _
  have hsW1 : W1.heap.size = W.heap.size + 1 := by rw [hW1]; simp
  rw [← hW1]
  clear hW1 d0
  have hszW : w3.heap.size ≤ W.heap.size := Hki.out.kept.size
  have hX := (HX3.out.keptIn Hki.out.kept ⟨by omega, by omega⟩).below hbW1 (by omega)
  have HX := Lib.hid hX
  have HI1 := Lib.hid hI1
  have c0 : W1.cell? ⟨W.heap.size, 0, none⟩ = some (.int .i64 (i : Int)) := by rw [hI1.cell]; rfl
  have Hrg := Lib.hid (Blk.range hX)
  have HbW1 := Lib.hid hbW1
  clear hX hI1 hbW1
  go_upto_region 9 with (refine wpList_load_mid rfl 28 (.tmp 1) rfl w.heap.size 0 rfl (secV k) d28 Hrg.out hd28 hrow28 (by rw [secV_len]; kernel_rfl) ?_)
  refine (callsIn_wide.1 (values_in 0 k i W1)).mono ?_
  rintro e W2' ⟨rfl, hW2⟩
  have hbW2 : Below W1.heap.size W1 W2' := by rw [hW2]; exact ((Below.refl _ _).alloc (Nat.le_refl _) _).alloc (by simp) _
  have hK2 : Blk W2' (W.heap.size + 1) 28 (secV k).toArray := by
    have := (Blk.new W1 28 (secV k).toArray).alloc (.cells #[.int .i64 (i : Int)] 3)
    rw [hsW1] at this
    rw [hW2]; exact this
  have hI2 : Blk W2' (W.heap.size + 1 + 1) 3 #[.int .i64 (i : Int)] := by
    have := Blk.new (W1.alloc (.cells (secV k).toArray 28)) 3 #[.int .i64 (i : Int)]
    rw [World.size_alloc, hsW1] at this
    rw [hW2]; exact this
  have hsW2 : W2'.heap.size = W.heap.size + 3 := by rw [hW2]; simp; omega
  rw [hsW1]
  clear hW2
  obtain ⟨W2, hW2⟩ : ∃ v, v = W2' := ⟨_, rfl⟩
  subst hW2
  have HbW2 := Lib.hid (HbW1.out.trans (hbW2.mono HbW1.out.size))
  have HK2 := Lib.hid hK2
  have HI2 := Lib.hid hI2
  have HI := Lib.hid (HI1.out.below hbW2 HI1.out.lt)
  clear hK2 hI2 hbW2 HI1 Hrg HbW1 c0 HX
  have hki2 : KI k N (w.heap.size + 1) w3 i ds vs W2 := Hki.out.below HbW2.out (by omega)
  have Hk2 := Lib.hid hki2
  clear hki2
  go_wp2_with fail
  have hS : ∀ b, (b < W2.heap.size ∧ b ≠ w.heap.size + 1) → b < W2.heap.size := fun b h => h.1
  have hg2 : Globs W2 := (Hg.out.below HB3.out).keptIn (Hk2.out.kept) ⟨by have := Hg.out.size; omega, by have := Hg.out.size; omega⟩ ⟨by have := Hg.out.size; omega, by have := Hg.out.size; omega⟩
  have hgs := Hg.out.size
  have h0 : KR N (w.heap.size + 1) i vs W2 [] W2 := ⟨⟨none, 0, 0⟩, by
    have := Hk2.out.blk
    rw [show N - i = (N - (i + 1)) + 1 by omega, List.replicate_succ] at this
    exact this, World.ownsRow_nil _ _ _ _, KeptIn.refl _ _⟩
  have H0 := Lib.hid h0
  have Hg2 := Lib.hid hg2
  have HKc := Lib.hid (fun (j : Nat) (v : Value) (hv : (secV k)[j]? = some v) => (show W2.cell? ⟨W.heap.size + 1, j, none⟩ = some v by rw [HK2.out.cell, List.getElem?_toArray]; exact hv))
  have HIc := Lib.hid (show W2.cell? ⟨W.heap.size + 1 + 1, 0, none⟩ = some (.int .i64 (i : Int)) by rw [HI2.out.cell]; rfl)
  have HOc := Lib.hid (show W2.cell? ⟨w.heap.size + 1 + 1, 0, none⟩ = some (.slice (some ⟨w.heap.size + 1, 0, none⟩) N N) from ((Hk2.out.kept.cell (p := ⟨w.heap.size + 1 + 1, 0, none⟩) (show w.heap.size + 1 + 1 < w3.heap.size ∧ w.heap.size + 1 + 1 ≠ w.heap.size + 1 from ⟨by omega, by omega⟩)).trans (by rw [HO3.out.cell]; rfl)))
  have HIv := Lib.hid (show W2.cell? ⟨W.heap.size, 0, none⟩ = some (.int .i64 (i : Int)) by rw [HI.out.cell]; rfl)
  have hvl : vs.length = i := by rw [Hk2.out.ins.1, keysS_len]
  clear h0 hg2
  refine wpIn_wide.1 (wpIn_rangeFunc_ownH (n := 3) rfl (by omega) (gf := 63) (lb := #[.pointer (some ⟨W.heap.size + 1, 0, none⟩), .pointer (some ⟨W.heap.size + 1 + 1, 0, none⟩)]) rfl trivial (enters_of Tryd.func63 (by kernel_rfl) rfl)
    (values_stops 2 (by omega) (W.heap.size + 1) (W.heap.size + 1 + 1) (fun b => b < W2.heap.size ∧ b ≠ w.heap.size + 1) k i (by omega) W2 Hg2.out HKc.out HIc.out hS ⟨by omega, by omega⟩ ⟨by omega, by omega⟩ ⟨by omega, by omega⟩ ⟨by omega, by omega⟩)
    keptK_t (keptK_b hS) (Below.refl _ _) (fun _ => rfl)
    (KR N (w.heap.size + 1) i vs W2) (fun _ _ _ => False) (kr_own (by omega)) (fun _ _ _ _ _ hs _ _ => hs) H0.out
    (fun x a' V => ∃ Bx, a' = { tmps := #[.agg (secV k).toArray, .pointer (some ⟨w.heap.size, 0, none⟩), .slice none 0 0, .pointer (some ⟨w.heap.size + 1 + 1, 0, none⟩), .pointer (some ⟨W.heap.size, 0, none⟩), undef, .pointer (some ⟨Bx, 0, none⟩), undef, .pointer (some ⟨w.heap.size, 32, none⟩), .int .i64 (H : Int), .int .i64 (wrap64 ((2 : Int) ^ H)), .slice (some ⟨w.heap.size + 1, 0, none⟩) N N, .slice (some ⟨w.heap.size + 1, 0, none⟩) N N, .int .i64 (N : Int), .int .i64 (i : Int), .bool true, .int .i64 (i : Int), .agg (secV k).toArray, .int .i64 (i : Int), .func (.func 63) #[] #[.pointer (some ⟨W.heap.size + 1, 0, none⟩), .pointer (some ⟨W.heap.size + 1 + 1, 0, none⟩)], .int .i64 (x.1 : Int), .agg (sumC x.2).toArray, undef, undef, undef, undef, undef, undef, undef, undef, undef, undef, undef, u33, undef], defers := [] } ∧ W2.heap.size ≤ Bx ∧ Blk V Bx 26 (sumC x.2).toArray)
    (fun x a' _ X Y row ⟨Bx, h1, h2, h3⟩ hg hr => ⟨Bx, h1, h2, blk_nc h3 hg (fun r e => (hr r e).2)⟩)
    ?assign ?body ?done ?stop)
  case assign =>
    rintro l pre x V K hKR hK
    have hn_ : Blk (V.alloc (.cells zero32 26)) V.heap.size 26 zero32 := Blk.new _ _ _
    have Hn_ := Lib.hid hn_
    have HKR := Lib.hid hKR
    clear hn_ hKR
    unfold vpV
    refine round_region_text (by kernel_rfl) (by repeat (first | exact letsOut_own | exact (fun ⟨_, _, h⟩ => h) | refine letsOut_then ?_ | refine letsOut_block ?_)) ?_
    simp only [List.zip_toArray, List.foldl_toArray, List.zip_cons_cons, List.zip_nil_right, List.foldl_cons, List.foldl_nil, List.setIfInBounds_toArray, List.set_cons_succ, List.set_cons_zero]
    go_wp2_with (first | (refine wpList_alloc0 rfl 26 rfl zero32 _ i32 hi32 hz32 rfl ?_; simp only [Act.put, List.setIfInBounds_toArray, List.set_cons_succ, List.set_cons_zero]) | (refine wpList_store_row rfl 26 (.tmp 6) (.tmp 21) rfl (V.heap.size) (sumC x.2).toArray rfl rfl 26 _ Hn_.out (size32 _ (sum_size _)) ((zero32_size).trans (sum_size _).symm) (all_oneCell_toArray (oneB _)) ?_))
    obtain ⟨V', hV'⟩ : ∃ y, y = (V.alloc (.cells zero32 26)).setRow V.heap.size (sumC x.2).toArray := ⟨_, rfl⟩
    have hb : Below V.heap.size V V' := by rw [hV']; exact Below.setRow ((Below.refl _ _).alloc (Nat.le_refl _) _) (Nat.le_refl _) _
    have hX : Blk V' V.heap.size 26 (sumC x.2).toArray := by rw [hV']; exact setRow_heap _ _ _ _ _ _ Hn_.out
    rw [← hV']
    have hgb : V.grownBy V' none := ⟨hb.os, hb.tape, hb.output, hb.size, fun k hk _ => hb.block k hk⟩
    have hsV := HKR.out.sz
    exact hK _ V' ((KeepsOthers.of_grownBy hgb (fun _ _ e => by cases e)).from _) (KeptIn.of_below hb (fun b hb2 => by have := hb2.1; omega)) (kr_own (by omega) pre V V' none HKR.out hgb (fun r e => by cases e)) ⟨V.heap.size, rfl, hsV, hX⟩
  case body =>
    rintro l pre x a' V hl ⟨r, hr0⟩ hKR ⟨Bx, rfl, hBx, hX⟩ hlt
    have HKR := Lib.hid hKR
    have HXx := Lib.hid hX
    have hsV := hKR.sz
    have hgV : Globs V := Hg2.out.keptIn hKR.kept ⟨by omega, by omega⟩ ⟨by omega, by omega⟩
    have HgV := Lib.hid hgV
    have Hrx := Lib.hid (Blk.range hX)
    clear hX hKR hgV hr0
    dsimp only
    gi_wp2_with (refine round_list (by repeat (first | exact letsOut_own | refine letsOut_then ?_ | refine letsOut_block ?_)) _ _ _ (by kernel_rfl) ?_)
    go_wp2_with (refine wpList_load_mid rfl 26 (.tmp 6) rfl (Bx) 0 rfl (sumC x.2) _ (Hrx.out) und32 rfl (by rw [sumC_len]; kernel_rfl) ?_)
    refine (steps_any x.2 15 (by omega) V HgV.out).mono ?_
    rintro e V1 ⟨rfl, hb1⟩
    obtain ⟨E, hE⟩ : ∃ E, E = stS x.2 15 := ⟨_, rfl⟩
    rw [← hE]
    have HE := Lib.hid hE
    have Hn_ := Lib.hid (Blk.new V1 26 zero32)
    clear hE
    go_wp2_with (first | (refine wpList_alloc0 rfl 26 rfl zero32 _ i32 hi32 hz32 rfl ?_; simp only [Act.put, List.setIfInBounds_toArray, List.set_cons_succ, List.set_cons_zero]) | (refine wpList_store_row rfl 26 (.tmp 7) (.tmp 23) rfl (V1.heap.size) (sumC E).toArray rfl rfl 26 _ Hn_.out (size32 _ (sum_size _)) ((zero32_size).trans (sum_size _).symm) (all_oneCell_toArray (oneB _)) ?_))
    obtain ⟨V2, hV2⟩ : ∃ y, y = (V1.alloc (.cells zero32 26)).setRow V1.heap.size (sumC E).toArray := ⟨_, rfl⟩
    have hb2 : Below V1.heap.size V1 V2 := by rw [hV2]; exact Below.setRow ((Below.refl _ _).alloc (Nat.le_refl _) _) (Nat.le_refl _) _
    have hE2 : Blk V2 V1.heap.size 26 (sumC E).toArray := by rw [hV2]; exact setRow_heap _ _ _ _ _ _ Hn_.out
    rw [← hV2]
    clear hV2 Hn_
    have hb2 := hb1.trans (hb2.mono hb1.size)
    have hgb : V.grownBy V2 none := ⟨hb2.os, hb2.tape, hb2.output, hb2.size, fun k hk _ => hb2.block k hk⟩
    have hKR2 := kr_own (by omega) pre V V2 none HKR.out hgb (fun r e => by cases e)
    obtain ⟨v, hA2, hrow2, hk2⟩ := hKR2
    have hko := (KeepsOthers.of_grownBy hgb (fun _ _ e => by cases e))
    have hsV2 := hk2.size
    have hkV : KeptIn (fun b => b < W2.heap.size ∧ b ≠ w.heap.size + 1) V V2 := KeptIn.of_below hb2 (fun b hb => by have := hb.1; omega)
    have co : V2.cell? ⟨w.heap.size + 1 + 1, 0, none⟩ = some (.slice (some ⟨w.heap.size + 1, 0, none⟩) N N) := (hk2.cell (p := ⟨w.heap.size + 1 + 1, 0, none⟩) (show w.heap.size + 1 + 1 < W2.heap.size ∧ w.heap.size + 1 + 1 ≠ w.heap.size + 1 from ⟨by omega, by omega⟩)).trans HOc.out
    have ci : V2.cell? ⟨W.heap.size, 0, none⟩ = some (.int .i64 (i : Int)) := (hk2.cell (p := ⟨W.heap.size, 0, none⟩) (show W.heap.size < W2.heap.size ∧ W.heap.size ≠ w.heap.size + 1 from ⟨by omega, by omega⟩)).trans HIv.out
    have ca : V2.cell? ⟨w.heap.size + 1, i, none⟩ = some (slV v) := by
      rw [hA2.cell, List.getElem?_toArray, List.getElem?_append_right (by rw [List.length_map, hvl]; exact Nat.le_refl _), List.length_map, hvl, Nat.sub_self]; rfl
    unfold slV at ca
    obtain ⟨C, hC⟩ : ∃ C : World → Prop, C = fun W' => KeptIn (fun b => b < W2.heap.size ∧ b ≠ w.heap.size + 1) W2 W' := ⟨_, rfl⟩
    have Hco := Lib.hid (show ∀ W', C W' → W'.cell? ⟨w.heap.size + 1 + 1, 0, none⟩ = some (.slice (some ⟨w.heap.size + 1, 0, none⟩) N N) from fun W' h => by rw [hC] at h; exact (h.cell (p := ⟨w.heap.size + 1 + 1, 0, none⟩) (show w.heap.size + 1 + 1 < W2.heap.size ∧ w.heap.size + 1 + 1 ≠ w.heap.size + 1 from ⟨by omega, by omega⟩)).trans HOc.out)
    have Hci := Lib.hid (show ∀ W', C W' → W'.cell? ⟨W.heap.size, 0, none⟩ = some (.int .i64 (i : Int)) from fun W' h => by rw [hC] at h; exact (h.cell (p := ⟨W.heap.size, 0, none⟩) (show W.heap.size < W2.heap.size ∧ W.heap.size ≠ w.heap.size + 1 from ⟨by omega, by omega⟩)).trans HIv.out)
    have HCk := Lib.hid (show ∀ W', KeptIn (fun b => b < W2.heap.size ∧ b ≠ w.heap.size + 1) W2 W' → C W' from fun W' h => by rw [hC]; exact h)
    clear hC
    have hfr := hA2.frozen i
    have HA2 := Lib.hid hA2
    have Hrow2 := Lib.hid hrow2
    have Hk2' := Lib.hid hk2
    have HE2 := Lib.hid hE2
    have Hko := Lib.hid hko
    have HkV := Lib.hid hkV
    clear hrow2 hk2 hE2 hko hkV co ci hb1 hb2 hgb
    have li : decide ((i : Int) < (N : Int)) = true := decide_eq_true (by omega)
    have hkd : KeptIn (fun b => b < W2.heap.size ∧ b ≠ w.heap.size + 1) W2 V2.drew := Hk2'.out.trans (KeptIn.of_below ((Below.refl _ V2).drew) (fun b hb => by have := hb.1; omega))
    have Hkd := Lib.hid hkd
    clear hkd
    refine round_region_reads C [0, 1, 2, 3, 4, 6] 4 (by kernel_rfl) (by kernel_rfl) (by repeat (first | exact letsOut_own | refine letsOut_then ?_ | refine letsOut_block ?_)) (by kernel_rfl) (fun _ _ d _ _ h => by cases d <;> exact h) (HCk.out _ Hkd.out) (by kernel_rfl) (by kernel_rfl) rfl ?_
    simp only [pickOps, List.getElem?_cons_zero, List.getElem?_cons_succ]
    repeat (first | (refine wpQuiet_load1 rfl 49 (.tmp 3) rfl (w.heap.size + 1 + 1) 0 rfl _ _ Tryd.underlying49 rfl Hco.out ?_; simp only [Act.put, List.setIfInBounds_toArray, List.set_cons_succ, List.set_cons_zero]) | (refine wpQuiet_load1 rfl 3 (.tmp 4) rfl W.heap.size 0 rfl _ _ Tryd.underlying3 rfl Hci.out ?_; simp only [Act.put, List.setIfInBounds_toArray, List.set_cons_succ, List.set_cons_zero]) | go_big_quiet_step (fail))
    refine wpQuiet_run rfl (.pointer (some ⟨w.heap.size + 1, i, none⟩)) (fun w => by simp [execOp, go_sem]; intro h; exact absurd h (by omega)) ?_
    simp only [Act.put, List.setIfInBounds_toArray, List.set_cons_succ, List.set_cons_zero]
    refine wpQuiet_run rfl (.slice (some ⟨V1.heap.size, 0, none⟩) 32 32) (fun w => by simp [execOp, go_sem]) ?_
    simp only [Act.put, List.setIfInBounds_toArray, List.set_cons_succ, List.set_cons_zero]
    -- MARKD
    refine wpQuiet_nil ?_
    have hxr : Rd V2.drew 1 (some ⟨V1.heap.size, 0, none⟩) 32 (sumC E) := by
      have := HE2.out.rd (by rw [sumC_len]; omega)
      rw [sumC_len] at this
      exact this
    have Hxr := Lib.hid hxr
    have hrowd : AppZ V2.drew W2.heap.size 5 1 (.slice v.a v.n v.c) (32 * pre.length) ((endsOf pre).map byteV) := .inr Hrow2.out
    have Happ := Lib.hid hrowd
    have hsVd : W2.heap.size ≤ V2.drew.heap.size := hsV2
    clear hxr hrowd Hco Hci
    refine wpAnyH_one (i := 5) (by kernel_rfl) rfl (fun K hK => ?_)
    rw [if_pos (by rfl)]
    refine wp_load1 22 (.tmp 28) rfl (w.heap.size + 1) i rfl (.slice v.a v.n v.c) _ Tryd.underlying22 rfl ca ?_
    refine hK _ _ (HCk.out _ Hkd.out) ?_
    clear hK K
    simp only [Act.put, List.setIfInBounds_toArray, List.set_cons_succ, List.set_cons_zero]
    refine wpAnyH_one (i := 7) (by kernel_rfl) rfl (fun K hK => ?_)
    refine step_appz rfl (.tmp 29) (.tmp 30) 22 rfl 5 i0 (.int .u8 0) 1 1 Tryd.underlying22 hi0 hz0 hz1 hz2 rfl (by omega) W2.heap.size hsVd (.slice v.a v.n v.c) _ _ rfl Happ.out (some ⟨V1.heap.size, 0, none⟩) 32 32 (sumC E) rfl Hxr.out (oneB _) (by unfold maxLen; omega) (by omega) ?_
    intro v9 V3 hap9 hg9
    have hb9 : Below W2.heap.size V2.drew V3 := (Below.refl W2.heap.size V2.drew).grown hg9 hsVd (fun g e => (Happ.out.lt g e).1)
    have hko9 : KeepsOthers V2.drew V3 := KeepsOthers.of_grownBy hg9 fun j o ej hj => by
      rcases Hrow2.out.2 with ⟨e, _⟩ | ⟨g, cap, cur, e, _, hgb, _⟩
      · unfold slV at e; rw [e] at ej; simp [Value.ownBlock] at ej
      · unfold slV at e; rw [e] at ej
        obtain rfl : g = j := by simpa [Value.ownBlock] using ej
        have hj' : V2.heap[g]? = some o := hj
        rw [hgb] at hj'; cases hj'; rfl
    have hb93 := (Below.refl W2.heap.size V2).drew.trans hb9
    have hk3 : KeptIn (fun b => b < W2.heap.size ∧ b ≠ w.heap.size + 1) V2.drew V3 := KeptIn.of_below hb9 (fun b hb => hb.1)
    refine hK _ _ (HCk.out _ (Hkd.out.trans hk3)) ?_
    clear hK K
    have hrow9 : V3.ownsRow W2.heap.size 5 1 v9 (32 * pre.length + 32) ((endsOf pre).map byteV ++ sumC E) := by
      rcases hap9 with ⟨h0, _⟩ | h
      · omega
      · exact h
    obtain ⟨A9, c9, rfl⟩ := ownsRow_slice hrow9
    have Hko9 := Lib.hid hko9
    have hA9 := HA2.out.below hb93 (by omega)
    have ca9 : V3.cell? ⟨w.heap.size + 1, i, none⟩ = some (.slice v.a v.n v.c) := (hb9.cell (show w.heap.size + 1 < W2.heap.size by omega)).trans ca
    have hfr9 := hA9.frozen i
    have HA9 := Lib.hid hA9
    have Hrow9 := Lib.hid hrow9
    have Hk3 := Lib.hid (Hkd.out.trans hk3)
    have Hb9 := Lib.hid hb9
    clear hb9 hap9 hg9 hko9 hA9 hrow9 hk3 hb93 ca hfr
    simp only [Act.put, List.setIfInBounds_toArray, List.set_cons_succ, List.set_cons_zero]
    refine wpAnyH_one (i := 8) (by kernel_rfl) rfl (fun K hK => ?_)
    rw [if_pos (by rfl)]
    refine wp_run (.pointer (some ⟨w.heap.size + 1, i, none⟩)) (by simp [execOp, go_sem]; intro h; exact absurd h (by omega)) ?_
    refine hK _ _ (HCk.out _ Hk3.out) ?_
    clear hK K
    simp only [Act.put, List.setIfInBounds_toArray, List.set_cons_succ, List.set_cons_zero]
    refine wpAnyH_one (i := 9) (by kernel_rfl) rfl (fun K hK => ?_)
    rw [if_pos (by rfl)]
    unfold Oper.wp execOp
    simp [go_sem, ca9, hfr9]
    have hk4 : KeptIn (fun b => b < W2.heap.size ∧ b ≠ w.heap.size + 1) W2 (V3.setCell ⟨w.heap.size + 1, i, none⟩ (.slice A9 (32 * pre.length + 32) c9)) := Hk3.out.setAt (fun h => h.2 rfl) _
    refine hK _ _ (HCk.out _ hk4) ?_
    clear hK K
    refine wpAnyH_done (by kernel_rfl) ?_ _
    have hne : (Value.slice A9 (32 * pre.length + 32) c9).ownBlock ≠ some (w.heap.size + 1) := fun e => by have := (Hrow9.out.lt _ e).1; omega
    have hrow4 := Hrow9.out.kept ((KeptIn.refl (fun b => b ≠ w.heap.size + 1) V3).setAt (p := ⟨w.heap.size + 1, i, none⟩) (fun h => h rfl) (.slice A9 (32 * pre.length + 32) c9)).grownBut (.inr hne)
    have hblk4 := heap_setCell_same V3 (w.heap.size + 1) i _ 22 (.slice A9 (32 * pre.length + 32) c9) HA9.out
    rw [List.setIfInBounds_toArray, set_mid (by rw [List.length_map, hvl])] at hblk4
    have hkv : KeptIn (fun b => b < W2.heap.size ∧ b ≠ w.heap.size + 1) V (V3.setCell ⟨w.heap.size + 1, i, none⟩ (.slice A9 (32 * pre.length + 32) c9)) := ((HkV.out.trans (KeptIn.of_below (Below.refl _ V2).drew (fun b hb => by have := hb.1; omega))).trans (KeptIn.of_below Hb9.out (fun b hb => hb.1))).setAt (fun h => h.2 rfl) _
    have hkf := (((Hko.out.trans (KeepsOthers.drew V2)).trans Hko9.out).trans (KeepsOthers.setCell V3 ⟨w.heap.size + 1, i, none⟩ (.slice A9 (32 * pre.length + 32) c9))).from W2.heap.size
    refine ⟨hkf, hkv, ⟨A9, 32 * pre.length + 32, c9⟩, hblk4, ?_, hk4⟩
    rw [endsOf_snoc, List.map_append, List.length_append, ← HE.out]
    exact hrow4
  case done =>
    rintro D ys V hD hys hKR hDm
    have hDlt := (Array.getElem?_eq_some_iff.1 hDm).1
    have hkk := hKR.kept
    obtain ⟨v, hA, hrow, _⟩ := hKR
    have hend : KI k N (w.heap.size + 1) w3 (i + 1) ({ target := .collected D, args := #[] } :: ds) (vs ++ [v]) V := by
      refine ⟨(Hk2.out.marks.off hkk (fun d hd b e => ⟨(Hk2.out.lt d hd b e).2, by have := (Hk2.out.lt d hd b e).1; omega⟩)).new hDm (fun d hd b e => (Hk2.out.lt d hd b e).2) hD, ?_, ?_, ?_, Hk2.out.kept.trans (hkk.weaken (fun b hb => ⟨by have := hb.1; omega, hb.2⟩))⟩
      · intro d hd b e
        rcases List.mem_cons.1 hd with rfl | hd
        · cases e; exact ⟨by omega, hDlt⟩
        · exact ⟨(Hk2.out.lt d hd b e).1, by have := (Hk2.out.lt d hd b e).2; have := hkk.size; omega⟩
      · rw [List.map_append, List.map_cons, List.map_nil, List.append_assoc]; exact hA
      · rw [keysS_succ]
        have h1 := Hk2.out.ins.keptIn hkk (fun b cur hb => ⟨hb.lt, hb.ne Hk2.out.blk (by decide)⟩)
        rw [hys, vpL_len, endsOf_vpL] at hrow
        exact h1.append (ins_one hrow)
    have Hend := Lib.hid hend
    clear hend hA hrow hkk hys hDm
    go_wp2_with fail
    exact ⟨⟨i + 1, _, _, _, _, _, _, _, _, _, rfl, by omega, Hend.out⟩, by simp [intOf]; omega⟩
  case stop =>
    rintro D c pre V _ _ h _
    exact h.elim
end Go.Proofs.YtfdhiilhjfbehaaDoor
