/- The reference's Inputs and Clash; two claims that are accepted at one place with one root, and that are not the same, clash. -/
import Derived.Test.YthlecmmngldodaaDoorH9
namespace Go.Proofs.YthlecmmngldodaaDoor
section
open Go.RowKit Go.Sort
section
open Go

theorem wpAnyH_inv2 {P : Program} {md : Region.Mode} {ops : Array Oper} {Q : Exit → Act → World → Prop} {S : World → Prop} (I : Array Bool → Act → World → Prop)
    (hstep : ∀ listed a w, I listed a w → ∀ i, listed.getD i true = false → (∃ o, ops[i]? = some o ∧ (o.after.toList.all fun e => !Region.binds md e || listed.getD e.on false) = true) → wpOp P ops Q i (fun a' w' => S w' ∧ I (listed.setIfInBounds i true) a' w') a w)
    (hfin : ∀ listed a w, I listed a w → (∀ i o, ops[i]? = some o → listed.getD i true = false → (o.after.toList.all fun e => !Region.binds md e || listed.getD e.on false) = false) → Q .normal a w) (hsz : ∀ l a w, I l a w → ops.size ≤ l.size) :
    ∀ (fuel : Nat) (listed : Array Bool) (a : Act) (w : World), ((listed.toList.take ops.size).countP (· == false)) ≤ fuel → I listed a w → wpAnyH P md ops Q S fuel listed a w := by
  have fin : ∀ listed a w, I listed a w → Region.ready md ops listed = [] → Q .normal a w := by
    intro listed a w h hr
    refine hfin _ _ _ h fun i o ho hun => ?_
    cases hb : (o.after.toList.all fun e => !Region.binds md e || listed.getD e.on false) with
    | false => rfl
    | true =>
      have : i ∈ Region.ready md ops listed := mem_ready.2 ⟨hun, o, ho, depsB_spec.1 hb⟩
      rw [hr] at this
      cases this
  have pos : ∀ listed a w, I listed a w → ∀ i o, ops[i]? = some o → listed.getD i true = false → 0 < (listed.toList.take ops.size).countP (· == false) := by
    intro listed a w h i o ho hun
    have hlt : i < ops.size := (Array.getElem?_eq_some_iff.1 ho).1
    have hs := hsz _ _ _ h
    have hf : listed[i]'(by omega) = false := by
      have : i < listed.size := by omega
      simpa [this] using hun
    exact List.countP_pos_iff.2 ⟨listed[i]'(by omega), List.mem_iff_getElem?.2 ⟨i, by rw [List.getElem?_take, if_pos hlt]; simp [show i < listed.size by omega]⟩, by simp [hf]⟩
  intro fuel
  induction fuel with
  | zero =>
    intro listed a w hc h
    have hr : Region.ready md ops listed = [] := by
      rcases hL : Region.ready md ops listed with _ | ⟨i, r⟩
      · rfl
      · exfalso
        have hi : i ∈ Region.ready md ops listed := by rw [hL]; simp
        obtain ⟨hun, o, ho, _⟩ := mem_ready.1 hi
        have := pos _ _ _ h i o ho hun
        omega
    exact ⟨hr, fin _ _ _ h hr⟩
  | succ fuel ih =>
    intro listed a w hc h
    refine ⟨fun hr => fin _ _ _ h hr, fun i hi => ?_⟩
    obtain ⟨hun, o, ho, hd⟩ := mem_ready.1 hi
    have hlt : i < ops.size := (Array.getElem?_eq_some_iff.1 ho).1
    have hs := hsz _ _ _ h
    have hlt' : i < listed.size := by omega
    have hf : listed[i] = false := by simpa [hlt'] using hun
    have hp := pos _ _ _ h i o ho hun
    refine wpOp_mono (fun a' w' h' => ⟨h'.1, ih _ a' w' ?_ h'.2⟩) (hstep _ _ _ h i hun ⟨o, ho, depsB_spec.2 hd⟩)
    have e : ((listed.setIfInBounds i true).toList.take ops.size) = (listed.toList.take ops.size).set i true := by simp [List.take_set]
    rw [e, List.countP_set (by simp; omega)]
    have hg : (listed.toList.take ops.size)[i]'(by simp; omega) = false := by simp [hf]
    rw [hg]
    simp only [BEq.rfl, if_true]
    have h0 : (if (true == false) = true then 1 else 0) = 0 := rfl
    rw [h0]
    omega
end

def pbytes (x y : Sum32) : List UInt8 := 1 :: x.1 ++ y.1
def inpF : List Nat → Sum32 → List Sum32 → List (List UInt8)
  | s :: ss, x, a :: t => (if s = 1 then pbytes a x else pbytes x a) :: inpF ss (if s = 1 then pairS a x else pairS x a) t
  | _, _, _ => []
def inputsL (n i : Nat) (bs : List UInt8) (p : List Sum32) : List (List UInt8) := (0 :: bs) :: inpF (sidesL n i) (leafS bs) p
theorem inpF_step (ss : List Nat) (p : List Sum32) (k s : Nat) (a x : Sum32) (hs : ss[k]? = some s) (ha : p[k]? = some a) :
    inpF (ss.drop k) x (p.drop k) = (if s = 1 then pbytes a x else pbytes x a) :: inpF (ss.drop (k + 1)) (if s = 1 then pairS a x else pairS x a) (p.drop (k + 1)) := by
  obtain ⟨l1, e1⟩ := List.getElem?_eq_some_iff.1 hs
  obtain ⟨l2, e2⟩ := List.getElem?_eq_some_iff.1 ha
  rw [List.drop_eq_getElem_cons l1, List.drop_eq_getElem_cons l2, e1, e2]
  rfl
theorem inpF_end (ss : List Nat) (p : List Sum32) (k : Nat) (x : Sum32) (h : ss.length ≤ k ∨ p.length ≤ k) : inpF (ss.drop k) x (p.drop k) = [] := by
  rcases h with h | h
  · rw [List.drop_of_length_le h]
    cases p.drop k <;> rfl
  · rw [List.drop_of_length_le h]
    cases ss.drop k <;> rfl

theorem sidesF_le : ∀ (f n i : Nat), (sidesF f n i).length ≤ f
  | 0, _, _ => Nat.le_refl _
  | f + 1, n, i => by
    rw [sidesF]
    have := sidesF_le f ((n + 1) / 2) (i / 2)
    split
    · simp
    · rw [List.length_append]
      split
      · simp; omega
      · split <;> simp <;> omega
theorem sidesL_le (n i : Nat) : (sidesL n i).length ≤ n := sidesF_le n n i
/-- New slices of bytes, one after the other. -/
def Ins (w : World) (vs : List Sl) (cs : List (List UInt8)) : Prop := vs.length = cs.length ∧ ∀ (k : Nat) (v : Sl) (c : List UInt8), vs[k]? = some v → cs[k]? = some c → TRd w 5 1 v.a v.n (c.map byteV) ∧ v.n ≤ v.c
/-- The frame at the first region's calls. -/
def fr40 (cl : Value) (cb n i : Nat) (sl u3 u4 u5 u12 u15 u18 u19 : Value) : Act := { tmps := #[cl, .pointer (some ⟨cb, 0, none⟩), .slice none 0 0, u3, u4, u5, undef, undef, .pointer (some ⟨cb, 0, none⟩), .int .i64 (n : Int), .pointer (some ⟨cb, 1, none⟩), .int .i64 (i : Int), u12, .pointer (some ⟨cb, 2, none⟩), sl, u15, .pointer (some ⟨cb, 2, none⟩), sl, u18, u19, undef, undef, undef, undef, undef, undef, undef, undef, undef, undef, undef, undef, undef, undef, undef, undef, undef, undef, undef, undef, undef, undef, undef, undef, undef, undef, undef, undef, undef, undef, undef, undef, undef, undef, undef, undef, undef, undef, undef], defers := [] }
def In1 (w1 : World) (cl : Value) (cb n i : Nat) (sl : Value) (bs : List UInt8) (L : Array Bool) (a : Act) (W : World) : Prop :=
  ∃ (l4 l7 l10 l11 l12 l13 l14 l15 : Bool) (u3 u4 u5 u12 u15 u18 u19 : Value), L = #[true, true, true, true, l4, true, true, l7, true, true, l10, l11, l12, l13, l14, l15] ∧ a = fr40 cl cb n i sl u3 u4 u5 u12 u15 u18 u19 ∧ Below w1.heap.size w1 W ∧
    (l4 = true → ∃ A c, u12 = .slice A (sidesL n i).length c ∧ TRd W 3 1 A (sidesL n i).length ((sidesL n i).map natV)) ∧
    (l7 = true → u15 = .agg (sumC (leafS bs)).toArray) ∧
    (l10 = true → ∃ A c, u18 = .slice A (1 + bs.length) c ∧ 1 + bs.length ≤ c ∧ TRd W 5 1 A (1 + bs.length) ((0 :: bs).map byteV)) ∧
    (l11 = true → ∃ A c b, u19 = .slice (some ⟨b, 0, none⟩) 1 1 ∧ w1.heap.size ≤ b ∧ Blk W b 22 #[.slice A (1 + bs.length) c] ∧ 1 + bs.length ≤ c ∧ TRd W 5 1 A (1 + bs.length) ((0 :: bs).map byteV)) ∧
    (l12 = true → ∃ b C, u4 = .pointer (some ⟨b, 0, none⟩) ∧ w1.heap.size ≤ b ∧ Blk W b 33 C ∧ C.size = 32 ∧ (l14 = true → C = (sumC (leafS bs)).toArray)) ∧
    (l13 = true → u3 = u12) ∧ (l15 = true → u5 = u19) ∧ (l13 = true → l4 = true) ∧ (l14 = true → l12 = true) ∧ (l15 = true → l11 = true)
theorem TRd.kept {w w' : World} {e t sz n g : Nat} {A : Option Addr} {xs : List Value} {cs : Array Value} (h : TRd w e sz A n xs) (hg : Blk w g t cs) (hne : t ≠ e) (hk : KeptIn (fun k => k ≠ g) w w') : TRd w' e sz A n xs := by
  have hb : ∀ b off, 0 < n → A = some ⟨b, off, none⟩ → b ≠ g := fun b off hn e => by
    obtain ⟨cur, hc⟩ := h.2 hn b off e
    exact hc.ne hg (fun e => hne e.symm)
  exact ⟨h.1.keptIn hk (fun b off hn e => hb b off hn e), fun hn b off e => by obtain ⟨cur, hc⟩ := h.2 hn b off e; exact ⟨cur, hc.keptIn hk (hb b off hn e)⟩⟩
theorem KeptIn.grownBut {w w' : World} {g : Nat} (h : KeptIn (fun k => k ≠ g) w w') : w.grownBy w' (some g) := ⟨h.os, h.tape, h.output, h.size, fun i _ hne => h.block i (fun e => hne (by rw [e]))⟩
theorem AppZ.own_ne {w : World} {base e t sz n g : Nat} {v : Value} {xs : List Value} {cs : Array Value} (h : AppZ w base e sz v n xs) (hn : 0 < n) (hg : Blk w g t cs) (hne : t ≠ e) : some g ≠ v.ownBlock := by
  intro e'
  obtain ⟨A, c, rfl, _, _⟩ := h.rd
  cases A with
  | none => cases e'
  | some a =>
    obtain ⟨b, o, s⟩ := a
    simp only [Value.ownBlock, Option.some.injEq] at e'
    subst e'
    rcases h with ⟨h0, _⟩ | ⟨_, ⟨hv, _⟩ | ⟨g', cap, cur, hv, hb, hgg, _⟩⟩
    · omega
    · cases hv
    · cases hv
      exact (Blk.ne hg hgg hne) rfl
theorem TRd.grown {w w' : World} {e t sz n : Nat} {A : Option Addr} {xs : List Value} {row : Option Nat} (h : TRd w e sz A n xs) (hg : w.grownBy w' row) (hrow : ∀ g, row = some g → ∃ cur, Blk w g t cur) (hne : t ≠ e) : TRd w' e sz A n xs := by
  have hb : ∀ b off, 0 < n → A = some ⟨b, off, none⟩ → some b ≠ row := fun b off hn e' er => by
    obtain ⟨cur, hc⟩ := h.2 hn b off e'
    obtain ⟨cur', hc'⟩ := hrow b er.symm
    exact (Blk.ne hc' hc hne) rfl
  refine ⟨⟨h.1.1, h.1.2.1, fun hn => ?_⟩, fun hn b off e' => ?_⟩
  · obtain ⟨b, off, e', hc⟩ := h.1.2.2 hn
    exact ⟨b, off, e', fun j u hu => hg.cell (hc j u hu) (hb b off hn e')⟩
  · obtain ⟨cur, hc⟩ := h.2 hn b off e'
    exact ⟨cur, hc.kept hg (hb b off hn e')⟩
theorem AppZ.row {w : World} {base e sz n : Nat} {v : Value} {xs : List Value} (h : AppZ w base e sz v n xs) (hn : 0 < n) : ∀ g, v.ownBlock = some g → ∃ cur, Blk w g e cur := by
  intro g e'
  obtain ⟨A, c, rfl, _, _⟩ := h.rd
  cases A with
  | none => cases e'
  | some a =>
    obtain ⟨b, o, s⟩ := a
    simp only [Value.ownBlock, Option.some.injEq] at e'
    subst e'
    rcases h with ⟨h0, _⟩ | ⟨_, ⟨hv, _⟩ | ⟨g', cap, cur, hv, hb, hgg, _⟩⟩
    · omega
    · cases hv
    · cases hv
      exact ⟨cur, hgg⟩
theorem Ins.below {w w' : World} {vs : List Sl} {cs : List (List UInt8)} (h : Ins w vs cs) (hb : Below w.heap.size w w') : Ins w' vs cs := ⟨h.1, fun k v c hv hc => ⟨(h.2 k v c hv hc).1.below hb, (h.2 k v c hv hc).2⟩⟩
theorem Ins.grown {w w' : World} {t : Nat} {vs : List Sl} {cs : List (List UInt8)} {row : Option Nat} (h : Ins w vs cs) (hg : w.grownBy w' row) (hrow : ∀ g, row = some g → ∃ cur, Blk w g t cur) (hne : t ≠ 5) : Ins w' vs cs := ⟨h.1, fun k v c hv hc => ⟨(h.2 k v c hv hc).1.grown hg hrow hne, (h.2 k v c hv hc).2⟩⟩
theorem Ins.kept {w w' : World} {t g : Nat} {vs : List Sl} {cs : List (List UInt8)} {cur : Array Value} (h : Ins w vs cs) (hg : Blk w g t cur) (hne : t ≠ 5) (hk : KeptIn (fun k => k ≠ g) w w') : Ins w' vs cs := ⟨h.1, fun k v c hv hc => ⟨(h.2 k v c hv hc).1.kept hg hne hk, (h.2 k v c hv hc).2⟩⟩
theorem Ins.snoc {w : World} {vs : List Sl} {cs : List (List UInt8)} (h : Ins w vs cs) {v : Sl} {c : List UInt8} (hr : TRd w 5 1 v.a v.n (c.map byteV)) (hc : v.n ≤ v.c) : Ins w (vs ++ [v]) (cs ++ [c]) := by
  refine ⟨by simp [h.1], fun k v' c' hv hc' => ?_⟩
  by_cases hk : k < vs.length
  · rw [List.getElem?_append_left hk] at hv
    rw [List.getElem?_append_left (by rw [← h.1]; exact hk)] at hc'
    exact h.2 k v' c' hv hc'
  · rw [List.getElem?_append_right (by omega)] at hv
    rw [List.getElem?_append_right (by rw [← h.1]; omega), ← h.1] at hc'
    have h0 : k - vs.length = 0 := by
      rcases Nat.eq_zero_or_pos (k - vs.length) with h0 | h0
      · exact h0
      · rw [List.getElem?_eq_none (by simp; omega)] at hv
        cases hv
    rw [h0] at hv hc'
    cases hv; cases hc'
    exact ⟨hr, hc⟩
theorem TRd.ext {w w' : World} {e : TypeId} {sz n : Nat} {A : Option Addr} {xs : List Value} (h : TRd w e sz A n xs) (hb : Below w.heap.size w w') : TRd w' e sz A n xs := h.below hb
theorem step_buildE {P : Program} {ops : Array Oper} {Q : Exit → Act → World → Prop} {o : Oper} {a : Act} {w : World} {K : Act → World → Prop} {E : Prop} (hg : o.guard = none) (t : TypeId) (x : Operand) (e : TypeId) (v : Value) (ho : o.op = .buildSlice t 1 #[(0, x)]) (hx : a.eval x = v)
    (hrun : ∀ w : World, (Instr.buildSlice t 1 #[(0, v)]).run P w = .ok (.slice (some ⟨w.heap.size, 0, none⟩) 1 1) (w.alloc (.cells #[v] e)))
    (h : K (a.put o.dst (.slice (some ⟨w.heap.size, 0, none⟩) 1 1)) (w.alloc (.cells #[v] e))) : if Region.wanted o (yielded ops a.tmps) = true then Oper.wp P o a w K Q else E := by
  have hw : Region.wanted o (yielded ops a.tmps) = true := by simp [Region.wanted, hg]
  rw [if_pos hw]
  unfold Oper.wp execOp
  simp only [ho, Sem.run_bind, Sem.run_pure, Result.andThen_ok, List.map_toArray, List.map_cons, List.map_nil, hx, hrun]
  exact h

set_option maxRecDepth 100000 in
set_option maxHeartbeats 2000000 in
theorem RInputs_any (n i : Nat) (A B : Option Addr) (len cap m c : Nat) (bs : List UInt8) (p : List Sum32) (hi : i < n) (hn : n ≤ 1000) (w : World) (hr : Rd w 1 A len (bs.map byteV)) (hlen : len ≤ 8796093021000) (hp : Rd w 32 B m (p.flatMap sumC)) :
    Calls Tryd.prog 53 #[.agg (claimV n i A len cap B m c)] w fun e w' => ∃ (v : Value) (vs : List Sl), e = .returned v ∧ AppZ w' w.heap.size 22 1 v (inputsL n i bs p).length (vs.map slV) ∧ Ins w' vs (inputsL n i bs p) ∧ Below w.heap.size w w' := by
  obtain ⟨i32, hi32, hz32, hs32, hy32⟩ := info_parts info32
  obtain ⟨i22, hi22, hz22, hs22, hy22⟩ := info_parts info22
  have hbl := hr.len1
  subst hbl
  have hpl := hp.lenf sumC_len (by omega)
  have hml := hp.le
  have hB : Below w.heap.size w (w.alloc (.cells (claimV n i A bs.length cap B m c) 66)) := (Below.refl _ _).alloc (Nat.le_refl _) _
  have hC1 : Blk (w.alloc (.cells (claimV n i A bs.length cap B m c) 66)) w.heap.size 66 (claimV n i A bs.length cap B m c) := Blk.new _ _ _
  go_enter Tryd.func53, Tryd.ntmps53
  go_upto_region 1 with fail
  obtain ⟨w1, hw1⟩ : ∃ w1, w1 = w.alloc (.cells (claimV n i A bs.length cap B m c) 66) := ⟨_, rfl⟩
  rw [← hw1] at hC1 hB
  rw [← hw1]
  clear hw1
  have hcell : ∀ W, Below w1.heap.size w1 W → W.cell? ⟨w.heap.size, 0, none⟩ = some (.int .i64 n) ∧ W.cell? ⟨w.heap.size, 1, none⟩ = some (.int .i64 i) ∧ W.cell? ⟨w.heap.size, 2, none⟩ = some (.slice A bs.length cap) ∧ W.cell? ⟨w.heap.size, 3, none⟩ = some (.slice B m c) := fun W hW => by
    have h := hC1.below hW hC1.lt
    exact ⟨by rw [h.cell]; rfl, by rw [h.cell]; rfl, by rw [h.cell]; rfl, by rw [h.cell]; rfl⟩
  obtain ⟨c0, c1, c2, -⟩ := hcell w1 (Below.refl _ _)
  have k0 := cell_regrown c0
  have k1 := cell_regrown c1
  have k2 := cell_regrown c2
  have hs1 := hC1.lt
  have Hr1 := Lib.hid (hr.below hB)
  have Hp1 := Lib.hid (hp.below hB)
  have HB := Lib.hid hB
  have Hc := Lib.hid hcell
  clear c0 c1 c2 hcell hC1 hr hp hB
  refine wp_region_reads [0, 1, 2, 3, 5, 6, 8, 9] 8 (by kernel_rfl) (by kernel_rfl) (fun _ _ d _ _ h => by cases d <;> exact h) (by kernel_rfl) (by kernel_rfl) rfl ?_
  simp only [pickOps, List.getElem?_cons_zero, List.getElem?_cons_succ]
  repeat (go_big_quiet_step (fail))
  refine wpQuiet_nil ?_
  clear k0 k1 k2
  have kS : ∀ W, Below w1.heap.size w1 W → Calls Tryd.prog 47 #[.int .i64 (n : Int), .int .i64 (i : Int)] W fun e w' => ∃ A' c', e = .returned (.slice A' (sidesL n i).length c') ∧ TRd w' 3 1 A' (sidesL n i).length ((sidesL n i).map natV) ∧ Below W.heap.size W w' := fun W _ => RSides_typed n i hn hi W
  have kL : ∀ W, Below w1.heap.size w1 W → Calls Tryd.prog 48 #[.slice A bs.length cap] W fun e w' => e = .returned (.agg (sumC (leafS bs)).toArray) ∧ Below W.heap.size W w' := fun W hW => RLeaf_any A bs.length cap bs W (Hr1.out.below hW) hlen
  have kB : ∀ W, Below w1.heap.size w1 W → Calls Tryd.prog 60 #[.slice A bs.length cap] W fun e w' => ∃ A' c', e = .returned (.slice A' (1 + bs.length) c') ∧ 1 + bs.length ≤ c' ∧ TRd w' 5 1 A' (1 + bs.length) ((0 :: bs).map byteV) ∧ Below W.heap.size W w' := fun W hW => by
    exact RLeafBytes_typed A bs.length cap bs W (Hr1.out.below hW) (by omega)
  have hLs : (sumC (leafS bs)).toArray.size = 32 := by rw [List.size_toArray, sumC_len]
  have hL1 : (sumC (leafS bs)).toArray.all (·.oneCell') = true := all_oneCell_toArray (oneB _)
  refine wpAnyH_inv (In1 w1 (.agg (claimV n i A bs.length cap B m c)) w.heap.size n i (.slice A bs.length cap) bs) ?step ?fin ?sz 8 _ _ _ (Nat.le_of_eq (by kernel_rfl)) ?start
  case start => exact ⟨false, false, false, false, false, false, false, false, undef, undef, undef, undef, undef, undef, undef, by kernel_rfl, rfl, (Below.refl _ w1).drew, (fun q => by cases q), (fun q => by cases q), (fun q => by cases q), (fun q => by cases q), (fun q => by cases q), (fun q => by cases q), (fun q => by cases q), (fun q => by cases q), (fun q => by cases q), (fun q => by cases q)⟩
  case sz =>
    rintro L a W ⟨l4, l7, l10, l11, l12, l13, l14, l15, u3, u4, u5, u12, u15, u18, u19, rfl, _⟩
    rfl
  case step =>
    rintro L a W ⟨l4, l7, l10, l11, l12, l13, l14, l15, u3, u4, u5, u12, u15, u18, u19, rfl, rfl, hB, h12, h15, h18, h19, h4, h3, h5, f13, f14, f15⟩ i' hun ⟨o, ho, hd⟩
    have g12 : ∀ W', Below W.heap.size W W' → l4 = true → ∃ A c, u12 = .slice A (sidesL n i).length c ∧ TRd W' 3 1 A (sidesL n i).length ((sidesL n i).map natV) := fun W' hb q => by obtain ⟨A, c, e, h⟩ := h12 q; exact ⟨A, c, e, h.below hb⟩
    have g18 : ∀ W', Below W.heap.size W W' → l10 = true → ∃ A c, u18 = .slice A (1 + bs.length) c ∧ 1 + bs.length ≤ c ∧ TRd W' 5 1 A (1 + bs.length) ((0 :: bs).map byteV) := fun W' hb q => by obtain ⟨A, c, e, h1, h⟩ := h18 q; exact ⟨A, c, e, h1, h.below hb⟩
    have g19 : ∀ W', Below W.heap.size W W' → l11 = true → ∃ A c b, u19 = .slice (some ⟨b, 0, none⟩) 1 1 ∧ w1.heap.size ≤ b ∧ Blk W' b 22 #[.slice A (1 + bs.length) c] ∧ 1 + bs.length ≤ c ∧ TRd W' 5 1 A (1 + bs.length) ((0 :: bs).map byteV) := fun W' hb q => by obtain ⟨A, c, b, e, h1, h2, h3, h⟩ := h19 q; exact ⟨A, c, b, e, h1, h2.below hb h2.lt, h3, h.below hb⟩
    have g4 : ∀ W', Below W.heap.size W W' → l12 = true → ∃ b C, u4 = .pointer (some ⟨b, 0, none⟩) ∧ w1.heap.size ≤ b ∧ Blk W' b 33 C ∧ C.size = 32 ∧ (l14 = true → C = (sumC (leafS bs)).toArray) := fun W' hb q => by obtain ⟨b, C, e, h1, h2, h3⟩ := h4 q; exact ⟨b, C, e, h1, h2.below hb h2.lt, h3⟩
    have hi16 : i' < 16 := (Array.getElem?_eq_some_iff.1 ho).1
    have hi' : i' = 0 ∨ i' = 1 ∨ i' = 2 ∨ i' = 3 ∨ i' = 4 ∨ i' = 5 ∨ i' = 6 ∨ i' = 7 ∨ i' = 8 ∨ i' = 9 ∨ i' = 10 ∨ i' = 11 ∨ i' = 12 ∨ i' = 13 ∨ i' = 14 ∨ i' = 15 := by omega
    rcases hi' with rfl | rfl | rfl | rfl | rfl | rfl | rfl | rfl | rfl | rfl | rfl | rfl | rfl | rfl | rfl | rfl
    · exact Bool.noConfusion (show true = false from hun)
    · exact Bool.noConfusion (show true = false from hun)
    · exact Bool.noConfusion (show true = false from hun)
    · exact Bool.noConfusion (show true = false from hun)
    · obtain rfl : l4 = false := hun
      obtain rfl : l13 = false := by cases l13 with
        | false => rfl
        | true => cases f13 rfl
      refine wpOp_step rfl fun K hK => ?_
      unfold fr40
      go_simp
      refine (kS W hB).mono ?_
      rintro e W' ⟨A5, c5, rfl, hr5, hb⟩
      have hB' := hB.trans (hb.mono hB.size)
      exact hK _ _ ⟨ext_of hB', true, l7, l10, l11, l12, false, l14, l15, u3, u4, u5, _, u15, u18, u19, rfl, rfl, hB', fun _ => ⟨A5, c5, rfl, hr5⟩, h15, g18 _ hb, g19 _ hb, g4 _ hb, (fun q => by cases q), h5, (fun q => by cases q), f14, f15⟩
    · exact Bool.noConfusion (show true = false from hun)
    · exact Bool.noConfusion (show true = false from hun)
    · obtain rfl : l7 = false := hun
      refine wpOp_step rfl fun K hK => ?_
      unfold fr40
      go_simp
      refine (kL W hB).mono ?_
      rintro e W' ⟨rfl, hb⟩
      have hB' := hB.trans (hb.mono hB.size)
      exact hK _ _ ⟨ext_of hB', l4, true, l10, l11, l12, l13, l14, l15, u3, u4, u5, u12, _, u18, u19, rfl, rfl, hB', g12 _ hb, (fun _ => rfl), g18 _ hb, g19 _ hb, g4 _ hb, h3, h5, f13, f14, f15⟩
    · exact Bool.noConfusion (show true = false from hun)
    · exact Bool.noConfusion (show true = false from hun)
    · obtain rfl : l10 = false := hun
      refine wpOp_step rfl fun K hK => ?_
      unfold fr40
      go_simp
      refine (kB W hB).mono ?_
      rintro e W' ⟨A5, c5, rfl, hc5, hr5, hb⟩
      have hB' := hB.trans (hb.mono hB.size)
      exact hK _ _ ⟨ext_of hB', l4, l7, true, l11, l12, l13, l14, l15, u3, u4, u5, u12, u15, _, u19, rfl, rfl, hB', g12 _ hb, h15, fun _ => ⟨A5, c5, rfl, hc5, hr5⟩, g19 _ hb, g4 _ hb, h3, h5, f13, f14, f15⟩
    · obtain rfl : l11 = false := hun
      obtain rfl := Option.some.inj ho
      obtain rfl : l10 = true := by cases l10 with
        | true => rfl
        | false => exact Bool.noConfusion (show false = true from hd)
      obtain rfl : l15 = false := by cases l15 with
        | false => rfl
        | true => cases f15 rfl
      obtain ⟨A5, c5, rfl, hc5, hr5⟩ := h18 rfl
      refine wpOp_step rfl fun K hK => ?_
      have hb : ∀ o, Below W.heap.size W (W.alloc o) := fun o => (Below.refl _ _).alloc (Nat.le_refl _) _
      unfold fr40
      go_simp
      have hB' := hB.alloc hB.size (.cells #[.slice A5 (1 + bs.length) c5] 22)
      exact hK _ _ ⟨ext_of hB', l4, l7, true, true, l12, l13, l14, false, u3, u4, u5, u12, u15, _, _, rfl, rfl, hB', g12 _ (hb _), h15, g18 _ (hb _), fun _ => ⟨A5, c5, W.heap.size, rfl, hB.size, Blk.new _ _ _, hc5, hr5.below (hb _)⟩, g4 _ (hb _), h3, (fun q => by cases q), f13, f14, (fun q => by cases q)⟩
    · obtain rfl : l12 = false := hun
      obtain rfl : l14 = false := by cases l14 with
        | false => rfl
        | true => cases f14 rfl
      refine wpOp_step rfl fun K hK => ?_
      have hb : ∀ o, Below W.heap.size W (W.alloc o) := fun o => (Below.refl _ _).alloc (Nat.le_refl _) _
      refine step_alloc0 rfl 33 rfl zero32 (.agg zero32) i32 hi32 hz32 rfl ?_
      have hB' := hB.alloc hB.size (.cells zero32 33)
      exact hK _ _ ⟨ext_of hB', l4, l7, l10, l11, true, l13, false, l15, u3, _, u5, u12, u15, u18, u19, rfl, rfl, hB', g12 _ (hb _), h15, g18 _ (hb _), g19 _ (hb _), fun _ => ⟨W.heap.size, zero32, rfl, hB.size, Blk.new _ _ _, zero32_size, fun q => by cases q⟩, h3, h5, f13, (fun q => by cases q), f15⟩
    · obtain rfl : l13 = false := hun
      obtain rfl := Option.some.inj ho
      obtain rfl : l4 = true := by cases l4 with
        | true => rfl
        | false => exact Bool.noConfusion (show false = true from hd)
      refine wpOp_step rfl fun K hK => ?_
      unfold fr40
      go_simp
      exact hK _ _ ⟨ext_of hB, true, l7, l10, l11, l12, true, l14, l15, _, u4, u5, u12, u15, u18, u19, rfl, rfl, hB, h12, h15, h18, h19, h4, (fun _ => rfl), h5, (fun _ => rfl), f14, f15⟩
    · obtain rfl : l14 = false := hun
      obtain rfl := Option.some.inj ho
      obtain rfl : l12 = true := by cases l12 with
        | true => rfl
        | false => exact Bool.noConfusion (show false = true from hd)
      obtain rfl : l7 = true := by cases l7 with
        | true => rfl
        | false => exact Bool.noConfusion (show false = true from hd)
      obtain rfl : l13 = true := by cases l13 with
        | true => rfl
        | false => exact Bool.noConfusion (show false = true from hd)
      obtain rfl := h15 rfl
      obtain ⟨b, C, rfl, hwb, hC, hCs, _⟩ := h4 rfl
      refine wpOp_step rfl fun K hK => ?_
      refine step_store_row rfl 33 (.tmp 4) (.tmp 15) rfl b (sumC (leafS bs)).toArray rfl rfl 33 C hC (size32 _ hLs) (by rw [hCs, hLs]) hL1 ?_
      have hB' := Below.setRow hB hwb (sumC (leafS bs)).toArray
      have hK2 := (KeptIn.refl (fun k => k ≠ b) W).setRow (g := b) (fun h => h rfl) (sumC (leafS bs)).toArray
      exact hK _ _ ⟨ext_of hB', l4, true, l10, l11, true, true, true, l15, u3, _, u5, u12, _, u18, u19, rfl, rfl, hB', (fun q => by obtain ⟨A, c, e, h⟩ := h12 q; exact ⟨A, c, e, h.kept hC (by decide) hK2⟩), (fun _ => rfl), (fun q => by obtain ⟨A, c, e, h1, h⟩ := h18 q; exact ⟨A, c, e, h1, h.kept hC (by decide) hK2⟩), (fun q => by obtain ⟨A, c, b', e, h1, h2, h3, h⟩ := h19 q; exact ⟨A, c, b', e, h1, h2.keptIn hK2 (h2.ne hC (by decide)), h3, h.kept hC (by decide) hK2⟩), (fun _ => ⟨b, _, rfl, hwb, setRow_heap _ _ _ _ _ _ hC, hLs, fun _ => rfl⟩), h3, h5, f13, (fun _ => rfl), f15⟩
    · obtain rfl : l15 = false := hun
      obtain rfl := Option.some.inj ho
      obtain rfl : l11 = true := by cases l11 with
        | true => rfl
        | false => exact Bool.noConfusion (show false = true from hd)
      refine wpOp_step rfl fun K hK => ?_
      unfold fr40
      go_simp
      exact hK _ _ ⟨ext_of hB, l4, l7, l10, true, l12, l13, l14, true, u3, u4, _, u12, u15, u18, u19, rfl, rfl, hB, h12, h15, h18, h19, h4, h3, (fun _ => rfl), f13, f14, (fun _ => rfl)⟩
  case fin =>
    rintro L a W ⟨l4, l7, l10, l11, l12, l13, l14, l15, u3, u4, u5, u12, u15, u18, u19, rfl, rfl, hB, h12, h15, h18, h19, h4, h3, h5, f13, f14, f15⟩ hfin
    obtain rfl : l4 = true := by cases l4 with
      | true => rfl
      | false => exact Bool.noConfusion (show true = false from hfin 4 _ rfl rfl)
    obtain rfl : l7 = true := by cases l7 with
      | true => rfl
      | false => exact Bool.noConfusion (show true = false from hfin 7 _ rfl rfl)
    obtain rfl : l10 = true := by cases l10 with
      | true => rfl
      | false => exact Bool.noConfusion (show true = false from hfin 10 _ rfl rfl)
    obtain rfl : l11 = true := by cases l11 with
      | true => rfl
      | false => exact Bool.noConfusion (show true = false from hfin 11 _ rfl rfl)
    obtain rfl : l12 = true := by cases l12 with
      | true => rfl
      | false => exact Bool.noConfusion (show true = false from hfin 12 _ rfl rfl)
    obtain rfl : l13 = true := by cases l13 with
      | true => rfl
      | false => exact Bool.noConfusion (show true = false from hfin 13 _ rfl rfl)
    obtain rfl : l14 = true := by cases l14 with
      | true => rfl
      | false => exact Bool.noConfusion (show true = false from hfin 14 _ rfl rfl)
    obtain rfl : l15 = true := by cases l15 with
      | true => rfl
      | false => exact Bool.noConfusion (show true = false from hfin 15 _ rfl rfl)
    obtain rfl := h3 rfl
    obtain rfl := h5 rfl
    obtain rfl := h15 rfl
    obtain ⟨A3, c3, rfl, hS⟩ := h12 rfl
    obtain ⟨A5, c5, b5, rfl, hw5, hO, hc5, hL⟩ := h19 rfl
    obtain ⟨b4, C, rfl, hw4, hX, _, hC⟩ := h4 rfl
    obtain rfl := hC rfl
    unfold fr40
    dsimp only
    clear h12 h15 h18 h19 h4 h3 h5 f13 f14 f15 hfin kS kL kB
    obtain ⟨ss, hss⟩ : ∃ ss, ss = sidesL n i := ⟨_, rfl⟩
    have hT : inputsL n i bs p = [0 :: bs] ++ inpF (ss.drop 0) (leafS bs) (p.drop 0) := by rw [hss]; rfl
    rw [← hss] at hS ⊢
    obtain ⟨tgt, htg⟩ : ∃ tgt, tgt = inputsL n i bs p := ⟨_, rfl⟩
    rw [← htg] at hT
    have Htg := Lib.hid htg
    have HT := Lib.hid hT
    have hsl := hS.1.le
    have HS := Lib.hid hS
    have HX := Lib.hid hX
    have HO := Lib.hid (show AppZ W w1.heap.size 22 1 (.slice (some ⟨b5, 0, none⟩) 1 1) 1 [.slice A5 (1 + bs.length) c5] from .inr ⟨rfl, .inr ⟨b5, 1, _, rfl, hw5, hO, Nat.le_refl _, by decide, rfl, rfl⟩⟩)
    have HL := Lib.hid (show Ins W [⟨A5, 1 + bs.length, c5⟩] [0 :: bs] from Ins.snoc (vs := []) (cs := []) ⟨rfl, fun k v c h => by simp at h⟩ hL hc5)
    have HBW := Lib.hid hB
    have hss1000 : ss.length ≤ 1000 := by rw [hss]; have := sidesL_le n i; omega
    clear hss htg hT hS hX hO hL hB hC hLs hL1
    simp only [Exit.then]
    go_wp2_with fail
    go_loopw [5, 6, 7] (fun v5 v6 _ wr => ∃ (k : Nat) (x : Sum32) (done : List (List UInt8)) (vs : List Sl), v6 = .int .i64 (k : Int) ∧ k ≤ ss.length ∧ k ≤ m ∧ done ++ inpF (ss.drop k) x (p.drop k) = tgt ∧ done.length = k + 1 ∧ Blk wr b4 33 (sumC x).toArray ∧ TRd wr 3 1 A3 ss.length (ss.map natV) ∧ AppZ wr w1.heap.size 22 1 v5 (k + 1) (vs.map slV) ∧ Ins wr vs done ∧ Below w1.heap.size w1 wr) (fun _ v6 _ _ => ss.length - (intOf v6).toNat)
    case atStart => exact ⟨0, leafS bs, [0 :: bs], [⟨A5, 1 + bs.length, c5⟩], rfl, by omega, by omega, HT.out.symm, rfl, HX.out, HS.out, HO.out, HL.out, HBW.out⟩
    case round =>
      obtain ⟨k, x, done, vs, rfl, hk, hkm, hst, hdl, hX, hS, hA, hI, hBr⟩ := hrel
      clear HX HS HO HL HBW HT
      obtain ⟨-, -, -, e3⟩ := Hc.out wr hBr
      have HX := Lib.hid hX
      have HS2 := Lib.hid hS
      have HA := Lib.hid hA
      have HI := Lib.hid hI
      have HBr := Lib.hid hBr
      have hb4 := hX.lt
      by_cases hend : ss.length ≤ k ∨ m ≤ k
      · rw [inpF_end ss p k x (by rcases hend with h | h <;> omega), List.append_nil] at hst
        obtain ⟨A9, c9, rfl, hc9, hr9⟩ := hA.rd
        have htl : tgt.length = k + 1 := by rw [← hst, hdl]
        have Hst := Lib.hid hst
        have Hdl := Lib.hid hdl
        have Hend := Lib.hid hend
        clear hst hX hS hA hI hBr hr9 hdl
        have fin : ∀ v : Value, v = .slice A9 (k + 1) c9 → ∃ (v' : Value) (vs : List Sl), Ending.returned v = .returned v' ∧ AppZ wr w.heap.size 22 1 v' (inputsL n i bs p).length (vs.map slV) ∧ Ins wr vs (inputsL n i bs p) ∧ Below w.heap.size w wr := fun v hv => by
          subst hv
          rw [← Htg.out, htl]
          refine ⟨_, vs, rfl, HA.out.mono (by omega), by rw [← Hst.out]; exact HI.out, HB.out.trans (HBr.out.mono (by omega))⟩
        have Fin := Lib.hid fin
        clear fin htl
        by_cases h1 : k < ss.length
        · have h2 : m ≤ k := by omega
          clear hend
          go_wp2_with fail
          go_ret
          exact Fin.out _ rfl
        · clear hend
          go_wp2_with fail
          go_ret
          exact Fin.out _ rfl
      · have h1 : k < ss.length := by omega
        have h2 : k < m := by omega
        clear hend
        obtain ⟨b3, off3, s, rfl, hs, hc3⟩ := hS.1.at_ h1
        obtain ⟨bp, offp, a, hBe, ha, hcp⟩ := (Hp1.out.below hBr).flat_ sumC_len (by omega) h2
        subst hBe
        have hstp := inpF_step ss p k s a x hs ha
        rw [hstp] at hst
        have haa : ∀ W0, Below wr.heap.size wr W0 → ∀ w', Ext W0 w' → w'.rangeAt bp (offp + k * 32) (sumC a) := fun W0 hW0 w' hw' j v hv => by
          have h0 := hcp j v hv
          rw [← Nat.add_assoc] at h0
          have h1 := (hW0.cell (World.block_lt_of_cell? wr _ h0)).trans h0
          exact ((ext_below hw').cell (World.block_lt_of_cell? W0 _ h1)).trans h1
        have hxx : ∀ W0, Below wr.heap.size wr W0 → ∀ w', Ext W0 w' → w'.rangeAt b4 0 (sumC x) := fun W0 hW0 w' hw' => Blk.range ((hX.below hW0 hX.lt).below (ext_below hw') (Nat.lt_of_lt_of_le hX.lt hW0.size))
        have Ha := Lib.hid haa
        have Hx := Lib.hid hxx
        have hc3' : wr.cell? ⟨b3, off3 + k, none⟩ = some (.int .i64 (s : Int)) := hc3
        have Hc3 := Lib.hid hc3'
        have He3 := Lib.hid e3
        have e3r := cell_regrown e3
        clear haa hxx hcp hc3 hc3' hs ha hstp hX hS hA hI hBr
        go_upto_region 5 with fail
        clear e3
        refine wp_region_reads_tail 7 [0, 1, 2, 3, 4, 5] 1 (by kernel_rfl) (List.take_append_drop _ _) rfl (by kernel_rfl) (by kernel_rfl) (by kernel_rfl) (by decide) (by kernel_rfl) (by kernel_rfl) (fun _ _ d _ _ h => by cases d <;> exact h) (by kernel_rfl) (by kernel_rfl) rfl ?_
        simp only [List.take_succ_cons, List.take_zero, List.drop_succ_cons, List.drop_zero, pickOps, List.getElem?_cons_zero, List.getElem?_cons_succ]
        repeat (first | go_big_quiet_step (fail) | (refine wpQuiet_load_mid rfl 33 _ rfl bp _ rfl (sumC a) _ (Ha.out wr (Below.refl _ _)) und32 rfl (by rw [sumC_len]; kernel_rfl) ?_; simp only [Act.put, List.setIfInBounds_toArray, List.set_cons_succ, List.set_cons_zero]) | (refine wpQuiet_load_mid rfl 33 _ rfl b4 0 rfl (sumC x) _ (Hx.out wr (Below.refl _ _)) und32 rfl (by rw [sumC_len]; kernel_rfl) ?_; simp only [Act.put, List.setIfInBounds_toArray, List.set_cons_succ, List.set_cons_zero]))
        refine wpQuiet_nil ?_
        refine wpAnyH_one (i := 6) (by kernel_rfl) rfl ?_
        intro K hK
        go_simp
        have hpair : Calls Tryd.prog 61 #[.agg (sumC x).toArray, .agg (sumC a).toArray] wr.drew fun e w' => ∃ A' c', e = .returned (.slice A' 65 c') ∧ 65 ≤ c' ∧ TRd w' 5 1 A' 65 ((pbytes x a).map byteV) ∧ Below wr.drew.heap.size wr.drew w' := RPairBytes_typed x.1 a.1 x.2 a.2 wr.drew
        have Hpair := Lib.hid hpair
        clear hpair
        refine Hpair.out.mono ?_
        rintro e W1 ⟨B1, cB1, rfl, hcB1, hrB1, hbB1⟩
        have hBBB1 : Below wr.heap.size wr W1 := (Below.refl _ wr).drew.trans hbB1
        refine hK _ _ (ext_of hBBB1) ?_
        clear hK K
        refine wpAnyH_done (by kernel_rfl) ?_ _
        simp only [Exit.then]
        have HBB1 := Lib.hid hBBB1
        have HrB1 := Lib.hid hrB1
        have kbB1 := hbB1.size
        clear Hpair hbB1 hBBB1 hrB1
        have e5 := (HBB1.out.cell (World.block_lt_of_cell? wr _ Hc3.out)).trans Hc3.out
        have e6 := cell_regrown ((HBB1.out.cell (World.block_lt_of_cell? wr _ He3.out)).trans He3.out)
        clear e3r
        by_cases hs1 : s = 1
        · subst hs1
          rw [if_pos rfl, if_pos rfl] at hst
          have Hst := Lib.hid hst
          clear hst
          go_wp2_with fail
          refine wp_region_reads_tail 7 [0, 1, 2, 3, 4, 5] 1 (by kernel_rfl) (List.take_append_drop _ _) rfl (by kernel_rfl) (by kernel_rfl) (by kernel_rfl) (by decide) (by kernel_rfl) (by kernel_rfl) (fun _ _ d _ _ h => by cases d <;> exact h) (by kernel_rfl) (by kernel_rfl) rfl ?_
          simp only [List.take_succ_cons, List.take_zero, List.drop_succ_cons, List.drop_zero, pickOps, List.getElem?_cons_zero, List.getElem?_cons_succ]
          repeat (first | go_big_quiet_step (fail) | (refine wpQuiet_load_mid rfl 33 _ rfl bp _ rfl (sumC a) _ (Ha.out W1 HBB1.out) und32 rfl (by rw [sumC_len]; kernel_rfl) ?_; simp only [Act.put, List.setIfInBounds_toArray, List.set_cons_succ, List.set_cons_zero]) | (refine wpQuiet_load_mid rfl 33 _ rfl b4 0 rfl (sumC x) _ (Hx.out W1 HBB1.out) und32 rfl (by rw [sumC_len]; kernel_rfl) ?_; simp only [Act.put, List.setIfInBounds_toArray, List.set_cons_succ, List.set_cons_zero]))
          refine wpQuiet_nil ?_
          refine wpAnyH_one (i := 6) (by kernel_rfl) rfl ?_
          intro K hK
          go_simp
          have hpair : Calls Tryd.prog 61 #[.agg (sumC a).toArray, .agg (sumC x).toArray] W1.drew fun e w' => ∃ A' c', e = .returned (.slice A' 65 c') ∧ 65 ≤ c' ∧ TRd w' 5 1 A' 65 ((pbytes a x).map byteV) ∧ Below W1.drew.heap.size W1.drew w' := RPairBytes_typed a.1 x.1 a.2 x.2 W1.drew
          have Hpair := Lib.hid hpair
          clear hpair
          refine Hpair.out.mono ?_
          rintro e W2 ⟨B2, cB2, rfl, hcB2, hrB2, hbB2⟩
          have hBBB2 : Below W1.heap.size W1 W2 := (Below.refl _ W1).drew.trans hbB2
          refine hK _ _ (ext_of hBBB2) ?_
          clear hK K
          refine wpAnyH_done (by kernel_rfl) ?_ _
          simp only [Exit.then]
          have HBB2 := Lib.hid (HBB1.out.trans (hBBB2.mono HBB1.out.size))
          have HrB2 := Lib.hid hrB2
          have kbB2 := hbB2.size
          clear Hpair hbB2 hBBB2 hrB2
          clear e5 e6
          obtain ⟨wz, hwz⟩ : ∃ wz, wz = W2 := ⟨_, rfl⟩
          rw [← hwz] at HBB2 HrB2 ⊢
          clear hwz
          have hXz := HX.out.below HBB2.out HX.out.lt
          have hSz := HS2.out.below HBB2.out
          have hAz := HA.out.below HBB2.out (Nat.le_refl _)
          have hIz := HI.out.below HBB2.out
          have HXz := Lib.hid hXz
          have HSz := Lib.hid hSz
          have HAz := Lib.hid hAz
          have HIz := Lib.hid hIz
          have Hrl := Lib.hid (lit_rdE wz (.slice B2 65 cB2) 22)
          clear hXz hSz hAz hIz
          have happ : ∀ (v9 : Value) (w9 : World), AppZ w9 w1.heap.size 22 1 v9 (k + 1 + 1) (vs.map slV ++ [.slice B2 65 cB2]) → (wz.alloc (.cells #[.slice B2 65 cB2] 22)).grownBy w9 u5.ownBlock →
              Blk w9 b4 33 (sumC x).toArray ∧ TRd w9 3 1 (some ⟨b3, off3, none⟩) ss.length (ss.map natV) ∧ Ins w9 (vs ++ [⟨B2, 65, cB2⟩]) (done ++ [pbytes a x]) ∧ TRd w9 5 1 B2 65 ((pbytes a x).map byteV) ∧ Below wr.heap.size wr (wz.alloc (.cells #[.slice B2 65 cB2] 22)) ∧ Below w1.heap.size w1 w9 := by
            intro v9 w9 ha hg
            have hb : Below wz.heap.size wz (wz.alloc (.cells #[.slice B2 65 cB2] 22)) := (Below.refl _ _).alloc (Nat.le_refl _) _
            have hA1 := HAz.out.alloc (.cells #[.slice B2 65 cB2] 22)
            have hX1 := HXz.out.alloc (.cells #[.slice B2 65 cB2] 22)
            have hrow := hA1.row (by omega)
            have hr1 := (HrB2.out.below hb).grown hg hrow (by decide)
            refine ⟨hX1.kept hg (hA1.own_ne (by omega) hX1 (by decide)), (HSz.out.below hb).grown hg hrow (by decide), Ins.snoc ((HIz.out.below hb).grown hg hrow (by decide)) hr1 hcB2, hr1, HBB2.out.trans (hb.mono HBB2.out.size), ?_⟩
            have hw1z : Below w1.heap.size w1 (wz.alloc (.cells #[.slice B2 65 cB2] 22)) := (HBr.out.trans (HBB2.out.mono HBr.out.size)).alloc (by have := HBr.out.size; have := HBB2.out.size; omega) _
            exact hw1z.grown hg hw1z.size (fun k e => (hA1.lt k e).1)
          have Happ := Lib.hid happ
          clear happ
          go_wp2_with (at_builtin; go_loud (refine wpList_appz rfl (.tmp 52) (.tmp 54) 27 rfl 22 i22 (.slice none 0 0) 1 24 Tryd.underlying27 hi22 hz22 hs22 hy22 rfl (by omega) w1.heap.size (by have := HBr.out.size; have := HBB2.out.size; simp; omega) _ (k + 1) _ rfl (HAz.out.alloc _) (some ⟨wz.heap.size, 0, none⟩) 1 1 [.slice B2 65 cB2] rfl Hrl.out (by simp [Value.oneCell']) (by unfold maxLen; omega) (by omega) ?_; intro v9 w9 ha9 hg9; obtain ⟨hX9, hS9, hI9, hR9, _, hB9⟩ := Happ.out v9 w9 ha9 hg9; have HX9 := Lib.hid hX9; have HS9 := Lib.hid hS9; have HI9 := Lib.hid hI9; have HR9 := Lib.hid hR9; have HB9 := Lib.hid hB9; have HA9 := Lib.hid ha9; clear hX9 hS9 hI9 hR9 hB9 ha9 hg9))
          have hsum : Calls Tryd.prog 55 #[.slice B2 65 cB2] w9 fun e w' => e = .returned (.agg (sumC (pairS a x)).toArray) ∧ Below w9.heap.size w9 w' := RSum_any B2 65 cB2 (pbytes a x) w9 HR9.out.1 (by omega)
          refine (Lib.hid hsum).out.mono ?_
          rintro e w10 ⟨rfl, hb10⟩
          have hX10 := HX9.out.below hb10 HX9.out.lt
          have hP32 : (sumC (pairS a x)).toArray.size = 32 := by rw [List.size_toArray, sumC_len]
          have hK10 := (KeptIn.refl (fun k => k ≠ b4) w10).setRow (g := b4) (fun h => h rfl) (sumC (pairS a x)).toArray
          have hS11 := (HS9.out.below hb10).kept hX10 (by decide) hK10
          have hI11 := (HI9.out.below hb10).kept hX10 (by decide) hK10
          have hA10 := HA9.out.below hb10 (Nat.le_refl _)
          have hA11 := hA10.kept hK10.grownBut (.inr (fun e => hA10.own_ne (by omega) hX10 (by decide) e.symm))
          have hX11 : Blk (w10.setRow b4 (sumC (pairS a x)).toArray) b4 33 (sumC (pairS a x)).toArray := setRow_heap _ _ _ _ _ _ hX10
          have hB11 := Below.setRow (HB9.out.trans (hb10.mono HB9.out.size)) hw4 (sumC (pairS a x)).toArray
          have HX10 := Lib.hid hX10
          have HX11 := Lib.hid hX11
          have HS11 := Lib.hid hS11
          have HI11 := Lib.hid hI11
          have HA11 := Lib.hid hA11
          have HB11 := Lib.hid hB11
          clear hX10 hX11 hS11 hI11 hA11 hB11 hb10 hA10 hK10 HX9 HS9 HI9 HR9 HB9 HA9 Happ hsum
          go_wp2_with (refine wpList_store_row rfl 33 (.tmp 4) (.tmp 57) rfl b4 (sumC (pairS a x)).toArray rfl rfl 33 (sumC x).toArray HX10.out (size32 _ hP32) (by rw [List.size_toArray, sumC_len, hP32]) (all_oneCell_toArray (oneB _)) ?_)
          refine ⟨⟨k + 1, pairS a x, done ++ [pbytes a x], vs ++ [⟨B2, 65, cB2⟩], by go_num, by omega, by omega, by rw [List.append_assoc]; exact Hst.out, by simp; omega, HX11.out, HS11.out, by rw [List.map_append]; exact HA11.out, HI11.out, HB11.out⟩, by simp [intOf]; omega⟩
        · rw [if_neg hs1, if_neg hs1] at hst
          have Hst := Lib.hid hst
          clear hst e6
          go_upto_region 8 with fail
          clear e5
          obtain ⟨wz, hwz⟩ : ∃ wz, wz = W1 := ⟨_, rfl⟩
          rw [← hwz] at HBB1 HrB1 ⊢
          clear hwz
          have hXz := HX.out.below HBB1.out HX.out.lt
          have hSz := HS2.out.below HBB1.out
          have hAz := HA.out.below HBB1.out (Nat.le_refl _)
          have hIz := HI.out.below HBB1.out
          have HXz := Lib.hid hXz
          have HSz := Lib.hid hSz
          have HAz := Lib.hid hAz
          have HIz := Lib.hid hIz
          have Hrl := Lib.hid (lit_rdE wz (.slice B1 65 cB1) 22)
          clear hXz hSz hAz hIz
          have happ : ∀ (v9 : Value) (w9 : World), AppZ w9 w1.heap.size 22 1 v9 (k + 1 + 1) (vs.map slV ++ [.slice B1 65 cB1]) → (wz.alloc (.cells #[.slice B1 65 cB1] 22)).grownBy w9 u5.ownBlock →
              Blk w9 b4 33 (sumC x).toArray ∧ TRd w9 3 1 (some ⟨b3, off3, none⟩) ss.length (ss.map natV) ∧ Ins w9 (vs ++ [⟨B1, 65, cB1⟩]) (done ++ [pbytes x a]) ∧ TRd w9 5 1 B1 65 ((pbytes x a).map byteV) ∧ Below wr.heap.size wr (wz.alloc (.cells #[.slice B1 65 cB1] 22)) ∧ Below w1.heap.size w1 w9 := by
            intro v9 w9 ha hg
            have hb : Below wz.heap.size wz (wz.alloc (.cells #[.slice B1 65 cB1] 22)) := (Below.refl _ _).alloc (Nat.le_refl _) _
            have hA1 := HAz.out.alloc (.cells #[.slice B1 65 cB1] 22)
            have hX1 := HXz.out.alloc (.cells #[.slice B1 65 cB1] 22)
            have hrow := hA1.row (by omega)
            have hr1 := (HrB1.out.below hb).grown hg hrow (by decide)
            refine ⟨hX1.kept hg (hA1.own_ne (by omega) hX1 (by decide)), (HSz.out.below hb).grown hg hrow (by decide), Ins.snoc ((HIz.out.below hb).grown hg hrow (by decide)) hr1 hcB1, hr1, HBB1.out.trans (hb.mono HBB1.out.size), ?_⟩
            have hw1z : Below w1.heap.size w1 (wz.alloc (.cells #[.slice B1 65 cB1] 22)) := (HBr.out.trans (HBB1.out.mono HBr.out.size)).alloc (by have := HBr.out.size; have := HBB1.out.size; omega) _
            exact hw1z.grown hg hw1z.size (fun k e => (hA1.lt k e).1)
          have Happ := Lib.hid happ
          clear happ
          go_wp2_with (at_builtin; go_loud (refine wpList_appz rfl (.tmp 52) (.tmp 54) 27 rfl 22 i22 (.slice none 0 0) 1 24 Tryd.underlying27 hi22 hz22 hs22 hy22 rfl (by omega) w1.heap.size (by have := HBr.out.size; have := HBB1.out.size; simp; omega) _ (k + 1) _ rfl (HAz.out.alloc _) (some ⟨wz.heap.size, 0, none⟩) 1 1 [.slice B1 65 cB1] rfl Hrl.out (by simp [Value.oneCell']) (by unfold maxLen; omega) (by omega) ?_; intro v9 w9 ha9 hg9; obtain ⟨hX9, hS9, hI9, hR9, _, hB9⟩ := Happ.out v9 w9 ha9 hg9; have HX9 := Lib.hid hX9; have HS9 := Lib.hid hS9; have HI9 := Lib.hid hI9; have HR9 := Lib.hid hR9; have HB9 := Lib.hid hB9; have HA9 := Lib.hid ha9; clear hX9 hS9 hI9 hR9 hB9 ha9 hg9))
          have hsum : Calls Tryd.prog 55 #[.slice B1 65 cB1] w9 fun e w' => e = .returned (.agg (sumC (pairS x a)).toArray) ∧ Below w9.heap.size w9 w' := RSum_any B1 65 cB1 (pbytes x a) w9 HR9.out.1 (by omega)
          refine (Lib.hid hsum).out.mono ?_
          rintro e w10 ⟨rfl, hb10⟩
          have hX10 := HX9.out.below hb10 HX9.out.lt
          have hP32 : (sumC (pairS x a)).toArray.size = 32 := by rw [List.size_toArray, sumC_len]
          have hK10 := (KeptIn.refl (fun k => k ≠ b4) w10).setRow (g := b4) (fun h => h rfl) (sumC (pairS x a)).toArray
          have hS11 := (HS9.out.below hb10).kept hX10 (by decide) hK10
          have hI11 := (HI9.out.below hb10).kept hX10 (by decide) hK10
          have hA10 := HA9.out.below hb10 (Nat.le_refl _)
          have hA11 := hA10.kept hK10.grownBut (.inr (fun e => hA10.own_ne (by omega) hX10 (by decide) e.symm))
          have hX11 : Blk (w10.setRow b4 (sumC (pairS x a)).toArray) b4 33 (sumC (pairS x a)).toArray := setRow_heap _ _ _ _ _ _ hX10
          have hB11 := Below.setRow (HB9.out.trans (hb10.mono HB9.out.size)) hw4 (sumC (pairS x a)).toArray
          have HX10 := Lib.hid hX10
          have HX11 := Lib.hid hX11
          have HS11 := Lib.hid hS11
          have HI11 := Lib.hid hI11
          have HA11 := Lib.hid hA11
          have HB11 := Lib.hid hB11
          clear hX10 hX11 hS11 hI11 hA11 hB11 hb10 hA10 hK10 HX9 HS9 HI9 HR9 HB9 HA9 Happ hsum
          go_wp2_with (refine wpList_store_row rfl 33 (.tmp 4) (.tmp 57) rfl b4 (sumC (pairS x a)).toArray rfl rfl 33 (sumC x).toArray HX10.out (size32 _ hP32) (by rw [List.size_toArray, sumC_len, hP32]) (all_oneCell_toArray (oneB _)) ?_)
          refine ⟨⟨k + 1, pairS x a, done ++ [pbytes x a], vs ++ [⟨B1, 65, cB1⟩], by go_num, by omega, by omega, by rw [List.append_assoc]; exact Hst.out, by simp; omega, HX11.out, HS11.out, by rw [List.map_append]; exact HA11.out, HI11.out, HB11.out⟩, by simp [intOf]; omega⟩
end
section
open Go.RowKit Go.Sort

theorem shaS_ne {x y : List UInt8} (h : sha x ≠ sha y) : decide (shaS x = shaS y) = false := decide_eq_false fun e => h (congrArg Subtype.val e)
theorem shaS_eq {x y : List UInt8} (h : sha x = sha y) : decide (shaS x = shaS y) = true := decide_eq_true (Subtype.ext h)
theorem Ins.lst {w : World} {A : Option Addr} {n : Nat} {vs : List Sl} {cs : List (List UInt8)} (hr : Rd w 1 A n (vs.map slV)) (h : Ins w vs cs) : Lst w A n cs :=
  ⟨vs, hr, by rw [← h.1]; exact hr.len1, fun k v c hv hc => ⟨(h.2 k v c hv hc).1.1, (h.2 k v c hv hc).2⟩⟩
theorem Ins.append {w : World} {vs us : List Sl} {cs ds : List (List UInt8)} (h : Ins w vs cs) (h' : Ins w us ds) : Ins w (vs ++ us) (cs ++ ds) := by
  refine ⟨by simp [h.1, h'.1], fun k v c hv hc => ?_⟩
  by_cases hk : k < vs.length
  · rw [List.getElem?_append_left hk] at hv
    rw [List.getElem?_append_left (by rw [← h.1]; exact hk)] at hc
    exact h.2 k v c hv hc
  · rw [List.getElem?_append_right (by omega)] at hv
    rw [List.getElem?_append_right (by rw [← h.1]; omega), ← h.1] at hc
    exact h'.2 _ v c hv hc
theorem inpF_bound : ∀ (ss : List Nat) (x : Sum32) (p : List Sum32) (l : List UInt8), l ∈ inpF ss x p → l.length = 65
  | [], _, _, l, h => by cases h
  | _ :: _, _, [], l, h => by cases h
  | s :: ss, x, a :: t, l, h => by
    rw [inpF] at h
    rcases List.mem_cons.1 h with h | h
    · subst h
      have := a.2
      have := x.2
      split <;> simp [pbytes] <;> omega
    · exact inpF_bound ss _ t l h
theorem inputsL_bound (n i : Nat) (bs : List UInt8) (p : List Sum32) (h : bs.length ≤ 1000) : ∀ l ∈ inputsL n i bs p, l.length ≤ 1001 := fun l hl => by
  rcases List.mem_cons.1 hl with h1 | h1
  · subst h1; simp; omega
  · rw [inpF_bound _ _ _ l h1]; omega
theorem inpF_len : ∀ (ss : List Nat) (x : Sum32) (p : List Sum32), (inpF ss x p).length ≤ ss.length
  | [], _, _ => Nat.le_refl _
  | _ :: _, _, [] => by simp [inpF]
  | s :: ss, x, a :: t => by rw [inpF]; have := inpF_len ss (if s = 1 then pairS a x else pairS x a) t; simp; omega
theorem inputsL_len (n i : Nat) (bs : List UInt8) (p : List Sum32) : (inputsL n i bs p).length ≤ n + 1 := by
  have := inpF_len (sidesL n i) (leafS bs) p
  have := sidesL_le n i
  unfold inputsL
  simp; omega

set_option maxRecDepth 100000 in
set_option maxHeartbeats 2000000 in
theorem RClash_yes (n i n' i' : Nat) (A B A' B' : Option Addr) (len cap m c len' cap' m' c' : Nat) (bs bs' : List UInt8) (p p' : List Sum32) (hi : i < n) (hn : n ≤ 1000) (hi' : i' < n') (hn' : n' ≤ 1000) (w : World)
    (hr : Rd w 1 A len (bs.map byteV)) (hlen : len ≤ 1000) (hp : Rd w 32 B m (p.flatMap sumC)) (hr' : Rd w 1 A' len' (bs'.map byteV)) (hlen' : len' ≤ 1000) (hp' : Rd w 32 B' m' (p'.flatMap sumC))
    (a b : Nat) (x y : List UInt8) (hba : b < a) (hx : (inputsL n i bs p ++ inputsL n' i' bs' p')[a]? = some x) (hy : (inputsL n i bs p ++ inputsL n' i' bs' p')[b]? = some y) (hne : x ≠ y) (hsh : sha x = sha y) :
    Calls Tryd.prog 37 #[.agg (claimV n i A len cap B m c), .agg (claimV n' i' A' len' cap' B' m' c')] w fun e w' => e = .returned (.bool true) ∧ Below w.heap.size w w' := by
  obtain ⟨i32, hi32, hz32, hs32, hy32⟩ := info_parts info32
  obtain ⟨i22, hi22, hz22, hs22, hy22⟩ := info_parts info22
  obtain ⟨d41, hd41, hrow41⟩ := und41
  have hbl := hr.len1
  have hbl' := hr'.len1
  have hbd : ∀ l ∈ inputsL n i bs p ++ inputsL n' i' bs' p', l.length ≤ 1001 := fun l hl => by
    rcases List.mem_append.1 hl with h | h
    · exact inputsL_bound _ _ _ _ (by omega) l h
    · exact inputsL_bound _ _ _ _ (by omega) l h
  have hl1 := inputsL_len n i bs p
  have hl2 := inputsL_len n' i' bs' p'
  have Hbl := Lib.hid hbl
  have Hbl' := Lib.hid hbl'
  clear hbl hbl'
  go_enter Tryd.func37, Tryd.ntmps37
  go_upto_region 1 with fail
  obtain ⟨w1, hw1⟩ : ∃ w1, w1 = (w.alloc (.cells (claimV n i A len cap B m c) 66)).alloc (.cells (claimV n' i' A' len' cap' B' m' c') 66) := ⟨_, rfl⟩
  have hB1 : Below w.heap.size w w1 := by rw [hw1]; exact ((Below.refl _ _).alloc (Nat.le_refl _) _).alloc (by simp) _
  have hC1 : Blk w1 w.heap.size 66 (claimV n i A len cap B m c) := by rw [hw1]; exact (Blk.new _ _ _).alloc _
  have hC2 : Blk w1 (w.heap.size + 1) 66 (claimV n' i' A' len' cap' B' m' c') := by
    rw [hw1]
    have := Blk.new (w.alloc (.cells (claimV n i A len cap B m c) 66)) 66 (claimV n' i' A' len' cap' B' m' c')
    rwa [World.size_alloc] at this
  rw [← hw1]
  clear hw1
  have H1 := Lib.hid (RInputs_any n i A B len cap m c bs p hi hn w1 (hr.below hB1) (by omega) (hp.below hB1))
  have hr1' := hr'.below hB1
  have hp1' := hp'.below hB1
  have g1 : w1.rangeAt w.heap.size 0 [.int .i64 (n : Int), .int .i64 (i : Int), .slice A len cap, .slice B m c] := Blk.range (cs := [.int .i64 (n : Int), .int .i64 (i : Int), .slice A len cap, .slice B m c]) hC1
  have HB1 := Lib.hid hB1
  have HC2 := Lib.hid hC2
  have Hr1' := Lib.hid hr1'
  have Hp1' := Lib.hid hp1'
  have G1 := Lib.hid g1
  have hs2 := hC2.lt
  clear hr hp hr' hp' hB1 hC1 hC2 hr1' hp1' g1
  go_wp2_with (refine wpList_load_mid rfl 66 (.tmp 2) rfl w.heap.size 0 rfl [.int .i64 (n : Int), .int .i64 (i : Int), .slice A len cap, .slice B m c] _ G1.out hd41 hrow41 (by kernel_rfl) ?_)
  refine H1.out.mono ?_
  rintro e w2 ⟨v1, vs1, rfl, hA1, hI1, hb1⟩
  have hs3 := hb1.size
  have H2 := Lib.hid (RInputs_any n' i' A' B' len' cap' m' c' bs' p' hi' hn' w2 (Hr1'.out.below hb1) (by omega) (Hp1'.out.below hb1))
  have g2 : w2.rangeAt (w.heap.size + 1) 0 [.int .i64 (n' : Int), .int .i64 (i' : Int), .slice A' len' cap', .slice B' m' c'] := Blk.range (cs := [.int .i64 (n' : Int), .int .i64 (i' : Int), .slice A' len' cap', .slice B' m' c']) (HC2.out.below hb1 hs2)
  have HA1 := Lib.hid hA1
  have HI1 := Lib.hid hI1
  have Hb1 := Lib.hid hb1
  have G2 := Lib.hid g2
  clear hA1 hI1 hb1 g2 H1 G1
  go_wp2_with (refine wpList_load_mid rfl 66 (.tmp 3) rfl (w.heap.size + 1) 0 rfl [.int .i64 (n' : Int), .int .i64 (i' : Int), .slice A' len' cap', .slice B' m' c'] _ G2.out hd41 hrow41 (by kernel_rfl) ?_)
  refine H2.out.mono ?_
  rintro e w3 ⟨v2, vs2, rfl, hA2, hI2, hb2⟩
  obtain ⟨Av2, cv2, rfl, hcv2, hrv2⟩ := hA2.rd
  have hA1' := HA1.out.below hb2 (Nat.le_refl _)
  have hI1' := HI1.out.below hb2
  have hone : ∀ u ∈ vs2.map slV, u.oneCell' = true := fun u hu => by obtain ⟨s, _, rfl⟩ := List.mem_map.1 hu; rfl
  have hs4 := hb2.size
  have happ : ∀ (v9 : Value) (w9 : World), AppZ w9 w1.heap.size 22 1 v9 ((inputsL n i bs p).length + (inputsL n' i' bs' p').length) (vs1.map slV ++ vs2.map slV) → w3.grownBy w9 v1.ownBlock →
      ∃ A9 c9, v9 = .slice A9 ((inputsL n i bs p).length + (inputsL n' i' bs' p').length) c9 ∧ Lst w9 A9 ((inputsL n i bs p).length + (inputsL n' i' bs' p').length) (inputsL n i bs p ++ inputsL n' i' bs' p') ∧ Below w.heap.size w w9 := by
    intro v9 w9 ha hg
    obtain ⟨A9, c9, rfl, _, hr9⟩ := ha.rd
    have hrow := hA1'.row (by unfold inputsL; simp)
    have hI := (hI1'.grown hg hrow (by decide)).append (hI2.grown hg hrow (by decide))
    rw [← List.map_append] at hr9
    have h13 : Below w.heap.size w w3 := HB1.out.trans ((Hb1.out.trans (hb2.mono hs3)).mono HB1.out.size)
    exact ⟨A9, c9, rfl, hI.lst hr9, h13.grown hg h13.size (fun k e => by have := (HA1.out.lt k e).1; have := HB1.out.size; omega)⟩
  have Happ := Lib.hid happ
  have HA1' := Lib.hid hA1'
  have Hrv2 := Lib.hid hrv2
  clear happ hA1' hI1' hrv2 hA2 hI2 hb2 H2 G2 HI1 HA1
  go_wp2_with (at_builtin; go_loud (refine wpList_appz rfl (.tmp 10) (.tmp 12) 27 rfl 22 i22 (.slice none 0 0) 1 24 Tryd.underlying27 hi22 hz22 hs22 hy22 rfl (by omega) w1.heap.size (by omega) _ _ _ rfl HA1'.out Av2 _ cv2 (vs2.map slV) rfl Hrv2.out hone (by unfold maxLen; omega) (by omega) ?_; intro v9 w4 ha9 hg9; obtain ⟨A9, c9, rfl, hL9, hB9⟩ := Happ.out v9 w4 ha9 hg9; have HL := Lib.hid hL9; have HB4 := Lib.hid hB9; clear ha9 hg9 hL9 hB9))
  obtain ⟨N, hN⟩ : ∃ N, N = (inputsL n i bs p).length + (inputsL n' i' bs' p').length := ⟨_, rfl⟩
  obtain ⟨L, hL⟩ : ∃ L, L = inputsL n i bs p ++ inputsL n' i' bs' p' := ⟨_, rfl⟩
  rw [← hN] at HL ⊢
  rw [← hL] at HL hx hy hbd
  have hN2 : N ≤ 2002 := by omega
  have hLl := HL.out.len
  have haN : a < N := by rw [← hLl]; exact (List.getElem?_eq_some_iff.1 hx).1
  clear hN hL hl1 hl2 Happ HA1' Hrv2 hone hcv2 HC2 Hr1' Hp1' Hb1 Hbl Hbl' hd41 hrow41
  have Hx := Lib.hid hx
  have Hy := Lib.hid hy
  have Hne := Lib.hid hne
  have Hsh := Lib.hid hsh
  have Hbd := Lib.hid hbd
  clear hx hy hne hsh hbd
  go_loopw [6, 7] (fun v6 _ wr => ∃ i : Nat, i ≤ a ∧ v6 = .int .i64 (i : Int) ∧ Below w4.heap.size w4 wr) (fun v6 _ _ => N - (intOf v6).toNat)
  case atStart => exact ⟨0, by omega, rfl, Below.refl _ _⟩
  case round =>
    obtain ⟨i, hia, rfl, hB⟩ := hrel
    have hiN : i < N := by omega
    have HBo := Lib.hid hB
    clear hB
    obtain ⟨wo, hwo⟩ : ∃ wo, wo = wr := ⟨_, rfl⟩
    subst hwo
    go_wp2_with fail
    go_loopw [7] (fun v7 wr => ∃ k : Nat, k ≤ i ∧ (i = a → k ≤ b) ∧ v7 = .int .i64 (k : Int) ∧ Below wo.heap.size wo wr) (fun v7 _ => i - (intOf v7).toNat)
    case atStart => exact ⟨0, by omega, by omega, rfl, Below.refl _ _⟩
    case round =>
      obtain ⟨k, hki, hkb, rfl, hB⟩ := hrel
      by_cases hlt : k < i
      · have hB4r := HBo.out.trans (hB.mono HBo.out.size)
        have hLr := (HL.out).below hB4r
        obtain ⟨bI, oI, vi, ci, rfl, hci, ei, hri, hvi⟩ := hLr.at_ hiN
        obtain ⟨bK, oK, vk, ck, eK, hck, ek, hrk, hvk⟩ := hLr.at_ (show k < N by omega)
        cases eK
        have hnot : ci = ck ∨ sha ci ≠ sha ck → (i = a → k ≠ b) := fun h e1 e2 => by
          subst e1 e2
          have h1 := Hx.out
          rw [hci] at h1
          have h2 := Hy.out
          rw [hck] at h2
          cases h1; cases h2
          rcases h with h | h
          · exact Hne.out h
          · exact h Hsh.out
        have hli : vi.n ≤ 1001 := by have := Hbd.out ci (List.mem_of_getElem? hci); have := hri.len1; omega
        have hlk : vk.n ≤ 1001 := by have := Hbd.out ck (List.mem_of_getElem? hck); have := hrk.len1; omega
        have er := cell_regrown ei
        have ekr := cell_regrown ek
        have k25 : ∀ d os, Calls Tryd.prog 54 #[.slice vi.a vi.n vi.c, .slice vk.a vk.n vk.c] (grow (redrawn wr d) os) fun e w'' => e = .returned (.bool (decide (ci = ck))) ∧ ∃ p : Regrown, w'' = grow (redrawn wr p.d) p.os := fun d os =>
          Calls.regrown_of ((SameBytes_any vi.a vk.a vi.n vk.n vi.c vk.c ci ck _ (hri.below (below_regrown wr d os)) (hrk.below (below_regrown wr d os))).mono fun e w'' ⟨h1, m, h2⟩ => ⟨h1, by rw [h2]; exact below_drewN (Below.refl _ _) m⟩)
        have k15 : ∀ d os, Calls Tryd.prog 55 #[.slice vi.a vi.n vi.c] (grow (redrawn wr d) os) fun e w'' => e = .returned (.agg (sumC (shaS ci)).toArray) ∧ ∃ p : Regrown, w'' = grow (redrawn wr p.d) p.os := fun d os =>
          Calls.regrown_of (RSum_any vi.a vi.n vi.c ci _ (hri.below (below_regrown wr d os)) (by omega))
        have k16 : ∀ d os, Calls Tryd.prog 55 #[.slice vk.a vk.n vk.c] (grow (redrawn wr d) os) fun e w'' => e = .returned (.agg (sumC (shaS ck)).toArray) ∧ ∃ p : Regrown, w'' = grow (redrawn wr p.d) p.os := fun d os =>
          Calls.regrown_of (RSum_any vk.a vk.n vk.c ck _ (hrk.below (below_regrown wr d os)) (by omega))
        have hE := run_eql_sum (shaS ci) (shaS ck)
        have Hnot := Lib.hid hnot
        have HB := Lib.hid hB
        clear hci hck hri hrk hnot hB hB4r hLr ei ek
        by_cases hsame : ci = ck
        · rw [decide_eq_true hsame] at k25
          have hk2 := Hnot.out (.inl hsame)
          clear hsame
          go_upto_region 9 with fail
          refine wp_region_quiet_below (by kernel_rfl) (by kernel_rfl) ?_
          repeat (go_big_quiet_step (with_reducible exact k25 _ _))
          refine wpQuiet_nil ?_
          intro wz hwz
          have Hbz := Lib.hid (HB.out.trans ((ext_below hwz).mono HB.out.size))
          clear hwz k25 k15 k16 er ekr hE
          go_wp2
          exact ⟨⟨k + 1, by omega, by omega, by go_num, Hbz.out⟩, by simp [intOf]; omega⟩
        · rw [decide_eq_false hsame] at k25
          by_cases hsh : sha ci = sha ck
          · rw [shaS_eq hsh] at hE
            clear hsame hsh
            go_upto_region 9 with fail
            refine wp_region_quiet_below (by kernel_rfl) (by kernel_rfl) ?_
            repeat (go_big_quiet_step (first | with_reducible exact k25 _ _ | with_reducible exact k15 _ _ | with_reducible exact k16 _ _))
            refine wpQuiet_nil ?_
            intro wz hwz
            have Hbz := Lib.hid (HB4.out.trans ((HBo.out.trans ((HB.out.trans ((ext_below hwz).mono HB.out.size)).mono HBo.out.size)).mono HB4.out.size))
            clear hwz k25 k15 k16 er ekr hE
            go_wp2
            go_ret
            exact ⟨rfl, Hbz.out⟩
          · rw [shaS_ne hsh] at hE
            have hk2 := Hnot.out (.inr hsh)
            clear hsame hsh
            go_upto_region 9 with fail
            refine wp_region_quiet_below (by kernel_rfl) (by kernel_rfl) ?_
            repeat (go_big_quiet_step (first | with_reducible exact k25 _ _ | with_reducible exact k15 _ _ | with_reducible exact k16 _ _))
            refine wpQuiet_nil ?_
            intro wz hwz
            have Hbz := Lib.hid (HB.out.trans ((ext_below hwz).mono HB.out.size))
            clear hwz k25 k15 k16 er ekr hE
            go_wp2
            exact ⟨⟨k + 1, by omega, by omega, by go_num, Hbz.out⟩, by simp [intOf]; omega⟩
      · have hki' : k = i := by omega
        have hia' : i ≠ a := by omega
        have Hbz := Lib.hid (HBo.out.trans (hB.mono HBo.out.size))
        clear hB
        go_wp2_with fail
        exact ⟨⟨i + 1, by omega, by go_num, Hbz.out⟩, by simp [intOf]; omega⟩

theorem pbytes_inj {a x a' x' : Sum32} (h : pbytes a x = pbytes a' x') : a = a' ∧ x = x' := by
  unfold pbytes at h
  simp only [List.cons_append, List.cons.injEq, true_and] at h
  obtain ⟨h1, h2⟩ := List.append_inj h (by rw [a.2, a'.2])
  exact ⟨Subtype.ext h1, Subtype.ext h2⟩
theorem pairS_sha (a x : Sum32) : (pairS a x).1 = sha (pbytes a x) := rfl
theorem fold_clash : ∀ (ss : List Nat) (x x' : Sum32) (p p' : List Sum32) (rt : Sum32), foldS ss x p = some rt → foldS ss x' p' = some rt →
    (x = x' ∧ p = p') ∨ ∃ (j : Nat) (u v : List UInt8), (inpF ss x p)[j]? = some u ∧ (inpF ss x' p')[j]? = some v ∧ u ≠ v ∧ sha u = sha v
  | [], x, x', p, p', rt, h, h' => by
    cases p with
    | cons a t => cases h
    | nil => cases p' with
      | cons a t => cases h'
      | nil =>
        simp only [foldS, Option.some.injEq] at h h'
        exact .inl ⟨h.trans h'.symm, rfl⟩
  | s :: ss, x, x', p, p', rt, h, h' => by
    cases p with
    | nil => cases h
    | cons a t => cases p' with
      | nil => cases h'
      | cons a' t' =>
        rw [foldS] at h h'
        rcases fold_clash ss _ _ t t' rt h h' with ⟨h1, h2⟩ | ⟨j, u, v, h1, h2, h3, h4⟩
        · subst h2
          have hsh : sha (if s = 1 then pbytes a x else pbytes x a) = sha (if s = 1 then pbytes a' x' else pbytes x' a') := by
            have := congrArg Subtype.val h1
            by_cases hs : s = 1
            · rw [if_pos hs, if_pos hs] at this ⊢
              exact this
            · rw [if_neg hs, if_neg hs] at this ⊢
              exact this
          by_cases he : (if s = 1 then pbytes a x else pbytes x a) = (if s = 1 then pbytes a' x' else pbytes x' a')
          · left
            by_cases hs : s = 1
            · rw [if_pos hs, if_pos hs] at he
              obtain ⟨e1, e2⟩ := pbytes_inj he
              exact ⟨e2, by rw [e1]⟩
            · rw [if_neg hs, if_neg hs] at he
              obtain ⟨e1, e2⟩ := pbytes_inj he
              exact ⟨e1, by rw [e2]⟩
          · exact .inr ⟨0, _, _, rfl, rfl, he, hsh⟩
        · exact .inr ⟨j + 1, u, v, by rw [inpF, List.getElem?_cons_succ]; exact h1, by rw [inpF, List.getElem?_cons_succ]; exact h2, h3, h4⟩
theorem forge (n i : Nat) (hi : i < n) (bs bs' : List UInt8) (p p' : List Sum32) (rt : Sum32) (h : chkL n i (leafS bs) p = some rt) (h' : chkL n i (leafS bs') p' = some rt) (hne : ¬ (bs = bs' ∧ p = p')) :
    ∃ (a b : Nat) (x y : List UInt8), b < a ∧ (inputsL n i bs p ++ inputsL n i bs' p')[a]? = some x ∧ (inputsL n i bs p ++ inputsL n i bs' p')[b]? = some y ∧ x ≠ y ∧ sha x = sha y := by
  rw [chk_sides n n i _ _ (Nat.le_refl _) hi] at h h'
  have key : ∃ (j : Nat) (u v : List UInt8), (inputsL n i bs p)[j]? = some u ∧ (inputsL n i bs' p')[j]? = some v ∧ u ≠ v ∧ sha u = sha v := by
    rcases fold_clash _ _ _ _ _ _ h h' with ⟨h1, h2⟩ | ⟨j, u, v, h1, h2, h3, h4⟩
    · refine ⟨0, 0 :: bs, 0 :: bs', rfl, rfl, fun e => hne ⟨by injection e, h2⟩, ?_⟩
      exact congrArg Subtype.val h1
    · exact ⟨j + 1, u, v, by unfold inputsL; rw [List.getElem?_cons_succ]; exact h1, by unfold inputsL; rw [List.getElem?_cons_succ]; exact h2, h3, h4⟩
  obtain ⟨j, u, v, h1, h2, h3, h4⟩ := key
  have hj : j < (inputsL n i bs p).length := (List.getElem?_eq_some_iff.1 h1).1
  refine ⟨(inputsL n i bs p).length + j, j, v, u, by omega, ?_, ?_, fun e => h3 e.symm, h4.symm⟩
  · rw [List.getElem?_append_right (by omega), Nat.add_sub_cancel_left]; exact h2
  · rw [List.getElem?_append_left hj]; exact h1
end
end Go.Proofs.YthlecmmngldodaaDoor
