/- bytes.Compare, bytes.HasPrefix; the search's predicate; sort.Search. -/
import Derived.Test.YtcelkneeedebiaaX20
import Derived.Lib.BytesEntry
import Derived.Shelf.Bytes.SlSmallAll
namespace Go.Proofs.Ytcelkneeedebiaa
open Go Go.RowKit Go.Sort Go.Shelf

def prefixL_ren : Go.Shelf.Ren := ⟨fun | 116 => 31 | 115 => 36 | n => n, fun | 37 => 22 | 4 => 4 | 3 => 3 | 9 => 9 | 5 => 5 | n => n, fun | n => n⟩
theorem prefixL : Go.Proofs.Lays.nb116 Try.prog prefixL_ren := {
  mixed := by kernel_rfl
  f115 := Try.func36.trans (congrArg some (by kernel_rfl))
  f116 := Try.func31.trans (congrArg some (by kernel_rfl))
  t3 := Try.underlying3
  a3 := Try.isAgg3
  z3 := Try.sizeOf3
  v3 := Try.zeroValue3
  t4 := Try.underlying4
  a4 := Try.isAgg4
  z4 := Try.sizeOf4
  v4 := Try.zeroValue4
  t9 := Try.underlying9
  a9 := Try.isAgg9
  z9 := Try.sizeOf9
  v9 := Try.zeroValue9
  t37 := Try.underlying22
  a37 := Try.isAgg22
  z37 := Try.sizeOf22
  v37 := Try.zeroValue22
  t5 := Try.underlying5
  a5 := Try.isAgg5
  z5 := Try.sizeOf5
  v5 := Try.zeroValue5 }
theorem bytes_back (xs : List UInt8) : Lib.bytesOf (xs.map fun b => (b.toNat : Int)) = xs := by
  unfold Lib.bytesOf
  rw [List.map_map]
  conv => rhs; rw [← List.map_id xs]
  exact List.map_congr_left fun b _ => by simp
theorem run_bytesOf {w : World} {A : Option Addr} {n c : Nat} {xs : List UInt8} (h : Rd w 1 A n (xs.map byteV)) : (Extern.Bytes.bytesOf (.slice A n c)).run Try.prog w = .ok ⟨xs.toArray⟩ w := by
  have hl := h.len1
  cases A with
  | none =>
    have h0 : n = 0 := Nat.eq_zero_of_not_pos fun q => by obtain ⟨b, off, e, _⟩ := h.2.2 q; cases e
    subst h0
    rw [List.length_eq_zero_iff.1 hl]
    rfl
  | some a =>
    have hc : ∀ j x, (xs.map fun b => (b.toNat : Int))[j]? = some x → w.cell? (a.add j) = some (.int .u8 x) := fun j x hx => by
      have hj : j < n := by
        have := (List.getElem?_eq_some_iff.1 hx).1
        rw [List.length_map] at this; omega
      obtain ⟨b, off, e, hcell⟩ := h.2.2 (by omega)
      cases e
      have e2 : (⟨b, off, none⟩ : Addr).add j = ⟨b, off + j, none⟩ := by unfold Addr.add; split <;> simp_all
      rw [e2]
      refine hcell j _ ?_
      rw [List.getElem?_map] at hx ⊢
      cases hxs : xs[j]? with
      | none => rw [hxs] at hx; cases hx
      | some y => rw [hxs] at hx; cases hx; rfl
    have key := Lib.run_loadBytesX (P := Try.prog) w (xs.map fun b => (b.toNat : Int)) a .empty hc
    rw [List.length_map, hl, bytes_back] at key
    show (Extern.Bytes.loadBytes a n .empty).run Try.prog w = _
    rw [key]
    congr 1
    exact ByteArray.ext (by simp)
theorem run_cmpB {w : World} {A B : Option Addr} {n m c d : Nat} {xs ys : List UInt8} (hx : Rd w 1 A n (xs.map byteV)) (hy : Rd w 1 B m (ys.map byteV)) : (Extern.BytealgCompare.compare #[.slice A n c, .slice B m d]).run Try.prog w = .ok (.int .i64 (Lib.compareBytes xs ys)) w := by
  show Sem.run Try.prog (do pure (goInt (Extern.BytealgCompare.cmp (← Extern.Bytes.bytesOf (.slice A n c)) (← Extern.Bytes.bytesOf (.slice B m d))))) w = _
  simp only [Sem.run_bind, Sem.run_pure, run_bytesOf hx, run_bytesOf hy, Result.andThen]
  rw [Lib.cmp_eq]
  rfl
theorem cmp_lex : ∀ xs ys : List UInt8, decide (Lib.compareBytes xs ys ≥ 0) = !lexlt xs ys
  | [], [] => rfl
  | [], _ :: _ => rfl
  | _ :: _, [] => rfl
  | a :: u, b :: v => by
    unfold Lib.compareBytes lexlt
    by_cases h : a < b
    · rw [if_pos h, decide_eq_true h]; rfl
    · rw [if_neg h, decide_eq_false h]
      by_cases g : b < a
      · have hne : (a == b) = false := by rw [beq_eq_false_iff_ne]; exact fun e => h (by rw [e] at g; exact absurd g (UInt8.lt_irrefl _))
        rw [if_pos g, hne]; rfl
      · have e : a = b := by
          rcases Decidable.em (a = b) with e | e
          · exact e
          · rcases UInt8.lt_or_lt_of_ne e with q | q
            · exact absurd q h
            · exact absurd q g
        subst e
        rw [if_neg g, cmp_lex u v]
        simp
set_option maxRecDepth 100000 in
set_option maxHeartbeats 1000000 in
theorem BCompare_any (A B : Option Addr) (n m c d : Nat) (xs ys : List UInt8) (w : World) (hx : Rd w 1 A n (xs.map byteV)) (hy : Rd w 1 B m (ys.map byteV)) :
    Calls Try.prog 29 #[.slice A n c, .slice B m d] w fun e w' => e = .returned (.int .i64 (Lib.compareBytes xs ys)) ∧ w' = w := by
  have hr := run_cmpB (c := c) (d := d) hx hy
  have hcall : (callFunc 35 #[.slice A n c, .slice B m d]).run Try.prog w = .ok (.value (.int .i64 (Lib.compareBytes xs ys))) w := by
    rw [run_callFunc_extern Try.func35 (by kernel_rfl) (by kernel_rfl) (by kernel_rfl) (e := Extern.BytealgCompare.compare) (by kernel_rfl), hr]
    rfl
  generalize Lib.compareBytes xs ys = R at *
  clear hr hx hy
  go_enter Try.func29, Try.ntmps29
  go_wp2_with fail
  go_ret
  exact ⟨rfl, rfl⟩
theorem bytesIn_of {w : World} {A : Option Addr} {n : Nat} {xs : List UInt8} (h : Rd w 1 A n (xs.map byteV)) : Lib.BytesIn w A n (xs.map fun b => (b.toNat : Int)) := fun hn => by
  obtain ⟨b, off, e, hc⟩ := h.2.2 hn
  have hl := h.len1
  refine ⟨b, off, e, fun i hi => ?_⟩
  have hx : xs[i]? = some xs[i] := List.getElem?_eq_getElem (by omega)
  rw [hc i (byteV xs[i]) (by rw [List.getElem?_map, hx]; rfl), List.getD_eq_getElem?_getD, List.getElem?_map, hx]
  rfl
theorem prefix_shared : ∀ {b s : List UInt8}, Lib.hasPrefix b s = decide (sharedL b s = s.length)
  | b, [] => by rw [sharedL_nil]; cases b <;> rfl
  | [], y :: s => rfl
  | x :: b, y :: s => by
    have ih := prefix_shared (b := b) (s := s)
    unfold Lib.hasPrefix at ih ⊢
    unfold sharedL
    rw [List.isPrefixOf]
    by_cases e : x = y
    · subst e
      rw [if_pos rfl, ih]
      simp
    · rw [if_neg e]
      have : (y == x) = false := by rw [beq_eq_false_iff_ne]; exact fun q => e q.symm
      rw [this]
      simp
theorem BPrefix_any (A B : Option Addr) (n m c d : Nat) (xs ys : List UInt8) (w : World) (hx : Rd w 1 A n (xs.map byteV)) (hy : Rd w 1 B m (ys.map byteV)) (hnc : n ≤ c) :
    Calls Try.prog 31 #[.slice A n c, .slice B m d] w fun e w' => e = .returned (.bool (decide (sharedL xs ys = ys.length))) ∧ w' = w := by
  have h := Any.bytes_HasPrefix_all prefixL A B n c m d (xs.map fun b => (b.toNat : Int)) (ys.map fun b => (b.toNat : Int)) w (by rw [List.length_map]; exact hx.len1) (by rw [List.length_map]; exact hy.len1) hnc (bytesIn_of hx) (bytesIn_of hy)
  rw [bytes_back, bytes_back, prefix_shared] at h
  exact h
set_option maxRecDepth 100000 in
set_option maxHeartbeats 2000000 in
theorem Pred_any (XB XO XS bb bo ob oo n c m d k e i p : Nat) (B : Option Addr) (xs ys : List UInt8) (w : World) (cB : w.cell? ⟨XB, 0, none⟩ = some (.slice (some ⟨bb, bo, none⟩) n c)) (cO : w.cell? ⟨XO, 0, none⟩ = some (.slice (some ⟨ob, oo, none⟩) m d)) (cS : w.cell? ⟨XS, 0, none⟩ = some (.slice B k e))
    (hx : Rd w 1 (some ⟨bb, bo, none⟩) n (xs.map byteV)) (hy : Rd w 1 B k (ys.map byteV)) (cp : w.cell? ⟨ob, oo + i, none⟩ = some (.int .i64 (p : Int))) (hi : i < m) (hpn : p < n) (hnc : n ≤ c) :
    Calls Try.prog 28 #[.int .i64 (i : Int), .pointer (some ⟨XB, 0, none⟩), .pointer (some ⟨XO, 0, none⟩), .pointer (some ⟨XS, 0, none⟩)] w fun e w' => e = .returned (.bool (!lexlt (xs.drop p) ys)) ∧ Below w.heap.size w w' ∧ w.drawn ≤ w'.drawn := by
  obtain ⟨C, hC⟩ : ∃ C, C = Lib.compareBytes (xs.drop p) ys := ⟨_, rfl⟩
  have hR := cmp_lex (xs.drop p) ys
  rw [← hC] at hR
  have HR := Lib.hid hR
  have HC := Lib.hid hC.symm
  have i1 : (i : Int) < (m : Int) := by omega
  have i0 : (0 : Int) ≤ (i : Int) := by omega
  have Hp := Lib.hid (rd_drop hx (show p ≤ n by omega))
  have Hy := Lib.hid hy
  clear hR hC hx hy
  go_enter Try.func28, Try.ntmps28
  go_upto_region 1 with fail
  refine wp_region_flowD [6, 7, 8, 9, 10, 11, 12, 13, 14, 5] [(Spec.is (.slice (some ⟨bb, bo, none⟩) n c), false), (Spec.is (.slice (some ⟨ob, oo, none⟩) m d), false), (Spec.is (.int .i64 (i : Int)), false), (Spec.is (.pointer (some ⟨ob, oo + i, none⟩)), false), (Spec.is (.int .i64 (p : Int)), false), (Spec.is (.slice (some ⟨bb, bo + p, none⟩) (n - p) (c - p)), false), (Spec.is (.slice B k e), false), (Spec.is (.int .i64 C), false), (Spec.is (.bool (decide (C ≥ 0))), false), (Spec.is (.bool (decide (C ≥ 0))), false)] 15 (by kernel_rfl) rfl (by decide) rfl (by decide) (by kernel_rfl) ?_ ?_
  · refine ⟨?_, ?_, ?_, ?_, ?_, ?_, ?_, ?_, ?_, ?_, trivial⟩
    · intro a W hE hb hs
      replace hE := hE.1
      have h1 : a.eval (.tmp 1) = .pointer (some ⟨XB, 0, none⟩) := hb 1 (by decide)
      refine flow0 rfl ?_
      have c1 : W.cell? ⟨XB, 0, none⟩ = some (.slice (some ⟨bb, bo, none⟩) n c) := cell_ext hE cB
      intro K hK
      unfold Oper.wp execOp
      simp only [h1]
      simp [go_sem, c1]
      exact hK _ _ ⟨Below.refl _ _, Nat.le_refl _, rfl, trivial⟩
    · intro a W hE hb hs
      replace hE := hE.1
      have h2 : a.eval (.tmp 2) = .pointer (some ⟨XO, 0, none⟩) := hb 2 (by decide)
      refine flow0 rfl ?_
      have c1 : W.cell? ⟨XO, 0, none⟩ = some (.slice (some ⟨ob, oo, none⟩) m d) := cell_ext hE cO
      intro K hK
      unfold Oper.wp execOp
      simp only [h2]
      simp [go_sem, c1]
      exact hK _ _ ⟨Below.refl _ _, Nat.le_refl _, rfl, trivial⟩
    · intro a W hE hb hs
      replace hE := hE.1
      have h0 : a.eval (.tmp 0) = .int .i64 (i : Int) := hb 0 (by decide)
      refine flow0 rfl ?_
      exact val_move _ rfl _ h0 ⟨Nat.le_refl _, rfl, trivial⟩
    · intro a W hE hb hs
      replace hE := hE.1
      have h7 : a.eval (.tmp 7) = .slice (some ⟨ob, oo, none⟩) m d := hs 1 (by decide)
      have h8 : a.eval (.tmp 8) = .int .i64 (i : Int) := hs 2 (by decide)
      refine flow0 rfl ?_
      intro K hK
      unfold Oper.wp execOp
      simp only [h7, h8]
      simp [go_sem, i1]
      exact hK _ _ ⟨Below.refl _ _, Nat.le_refl _, rfl, trivial⟩
    · intro a W hE hb hs
      replace hE := hE.1
      have h9 : a.eval (.tmp 9) = .pointer (some ⟨ob, oo + i, none⟩) := hs 3 (by decide)
      refine flow0 rfl ?_
      have c1 : W.cell? ⟨ob, oo + i, none⟩ = some (.int .i64 (p : Int)) := cell_ext hE cp
      intro K hK
      unfold Oper.wp execOp
      simp only [h9]
      simp [go_sem, c1]
      exact hK _ _ ⟨Below.refl _ _, Nat.le_refl _, rfl, trivial⟩
    · intro a W hE hb hs
      replace hE := hE.1
      have h6 : a.eval (.tmp 6) = .slice (some ⟨bb, bo, none⟩) n c := hs 0 (by decide)
      have h10 : a.eval (.tmp 10) = .int .i64 (p : Int) := hs 4 (by decide)
      refine flow0 rfl ?_
      exact val_slice_lo _ _ _ rfl (some ⟨bb, bo, none⟩) n c p h6 h10 (run_sliceAt_bytes bb bo n c p hpn hnc W) ⟨Nat.le_refl _, rfl, trivial⟩
    · intro a W hE hb hs
      replace hE := hE.1
      have h3 : a.eval (.tmp 3) = .pointer (some ⟨XS, 0, none⟩) := hb 3 (by decide)
      refine flow0 rfl ?_
      have c1 : W.cell? ⟨XS, 0, none⟩ = some (.slice B k e) := cell_ext hE cS
      intro K hK
      unfold Oper.wp execOp
      simp only [h3]
      simp [go_sem, c1]
      exact hK _ _ ⟨Below.refl _ _, Nat.le_refl _, rfl, trivial⟩
    · intro a W hE hb hs
      replace hE := hE.1
      have h11 : a.eval (.tmp 11) = .slice (some ⟨bb, bo + p, none⟩) (n - p) (c - p) := hs 5 (by decide)
      have h12 : a.eval (.tmp 12) = .slice B k e := hs 6 (by decide)
      refine flow0 rfl ?_
      exact val_call 29 _ _ rfl (by kernel_rfl) [.slice (some ⟨bb, bo + p, none⟩) (n - p) (c - p), .slice B k e] (by show [a.eval (.tmp 11), a.eval (.tmp 12)] = _; rw [h11, h12]) ((BCompare_any _ _ _ _ _ _ (xs.drop p) ys W (Hp.out.below (ext_below hE)) (Hy.out.below (ext_below hE))).mono (by rw [HC.out]; rintro e W' ⟨rfl, rfl⟩; exact ⟨_, rfl, Below.refl _ _, Nat.le_refl _, rfl, trivial⟩))
    · intro a W hE hb hs
      replace hE := hE.1
      have h13 : a.eval (.tmp 13) = .int .i64 C := hs 7 (by decide)
      refine flow0 rfl ?_
      intro K hK
      unfold Oper.wp execOp
      simp only [h13, BigFrame.eval_const]
      simp [go_sem]
      exact hK _ _ ⟨Below.refl _ _, Nat.le_refl _, rfl, trivial⟩
    · intro a W hE hb hs
      replace hE := hE.1
      have h14 : a.eval (.tmp 14) = .bool (decide (C ≥ 0)) := hs 8 (by decide)
      refine flow0 rfl ?_
      exact val_assign _ rfl _ h14 ⟨Nat.le_refl _, rfl, trivial⟩
  intro f W hb hdr hT hp hd
  have e5 : f 5 = .bool (decide (C ≥ 0)) := hT 9 (by decide)
  simp only [putV, List.foldl_cons, List.foldl_nil, Act.put, List.setIfInBounds_toArray, List.set_cons_succ, List.set_cons_zero, Exit.then]
  rw [e5]
  have HE := Lib.hid hb
  have HD := Lib.hid hdr
  clear hb hdr hT hp hd e5
  go_wp2_with fail
  go_ret
  exact ⟨by rw [← HR.out]; rfl, HE.out, HD.out⟩
/-- Where a predicate turns from false to true. -/
theorem count_turn (p : Nat → Bool) : ∀ (n : Nat), (∀ a b, a ≤ b → b < n → p a = true → p b = true) → ∃ P, P ≤ n ∧ (List.range n).countP (fun i => !p i) = P ∧ (∀ i, i < P → p i = false) ∧ ∀ i, P ≤ i → i < n → p i = true
  | 0, _ => ⟨0, Nat.le_refl _, rfl, fun i h => absurd h (Nat.not_lt_zero i), fun i _ h => absurd h (Nat.not_lt_zero i)⟩
  | n + 1, h => by
    obtain ⟨P, h1, h2, h3, h4⟩ := count_turn p n (fun a b hab hb => h a b hab (by omega))
    rw [List.range_succ, List.countP_append, h2]
    cases hn : p n with
    | true =>
      refine ⟨P, by omega, by simp [hn], h3, fun i hi hin => ?_⟩
      by_cases e : i = n
      · rw [e]; exact hn
      · exact h4 i hi (by omega)
    | false =>
      have hP : P = n := by
        refine Nat.le_antisymm h1 (Nat.le_of_not_lt fun q => ?_)
        have := h P n (by omega) (by omega) (h4 P (Nat.le_refl _) q)
        rw [hn] at this; cases this
      subst hP
      refine ⟨P + 1, Nat.le_refl _, by simp [hn], fun i hi => ?_, fun i hi hin => by omega⟩
      by_cases e : i = P
      · rw [e]; exact hn
      · exact h3 i (by omega)
set_option maxHeartbeats 1000000 in
theorem Find_any (XB XO XS n c m d k e : Nat) (A O B : Option Addr) (xs ys : List UInt8) (l : List Nat) (w : World) (cB : w.cell? ⟨XB, 0, none⟩ = some (.slice A n c)) (cO : w.cell? ⟨XO, 0, none⟩ = some (.slice O m d)) (cS : w.cell? ⟨XS, 0, none⟩ = some (.slice B k e))
    (hx : Rd w 1 A n (xs.map byteV)) (hy : Rd w 1 B k (ys.map byteV)) (ho : Rd w 1 O m (l.map natV)) (hord : IsOrd xs l) (hnc : n ≤ c) (hn : n ≤ 1000000) :
    Calls Try.prog 27 #[.int .i64 (m : Int), .func (.func 28) #[] #[.pointer (some ⟨XB, 0, none⟩), .pointer (some ⟨XO, 0, none⟩), .pointer (some ⟨XS, 0, none⟩)]] w fun e w' => (∃ P : Nat, e = .returned (.int .i64 (P : Int)) ∧ P ≤ m ∧ (∀ i, i < P → lexlt (xs.drop (l.getD i 0)) ys = true) ∧ ∀ i, P ≤ i → i < m → lexlt (xs.drop (l.getD i 0)) ys = false) ∧ Below w.heap.size w w' := by
  have hxl := hx.len1
  have hol := ho.len1
  have hml := ho.le
  have hlx : ∀ i ∈ l, i < n := fun i hi => by rw [← hxl]; exact hord.mem.1 hi
  have eg : ∀ args w, (callFunc 28 args).run Try.prog w = .ok (.enter 28 args) w := enters_of Try.func28 (by kernel_rfl) rfl
  have hmono : ∀ a b, a ≤ b → b < m → (!lexlt (xs.drop (l.getD a 0)) ys) = true → (!lexlt (xs.drop (l.getD b 0)) ys) = true := fun a b hab hb h => by
    by_cases e : a = b
    · rw [← e]; exact h
    · have h2 := hord.lt (s := a) (t := b) (by omega) (by omega)
      unfold sufLt at h2
      rw [getD_of (by omega)] at h ⊢
      cases q : lexlt (xs.drop l[b]) ys with
      | false => rfl
      | true => rw [lexlt_trans h2 q] at h; cases h
  have hm : m < 4611686018427387904 := by rw [← hol, hord.len]; omega
  have key := Any.sort_Search searchL 28 #[.pointer (some ⟨XB, 0, none⟩), .pointer (some ⟨XO, 0, none⟩), .pointer (some ⟨XS, 0, none⟩)] m (fun i => !lexlt (xs.drop (l.getD i 0)) ys) w eg hm (fun q os i hi => by
    have hb : Below w.heap.size w (grow (w.drewN q) os) := ext_below (ext_of (below_grown_sl w.heap.size w q os (Nat.le_refl _)))
    obtain ⟨ob, oo, eo, _⟩ := ho.2.2 (by omega)
    subst eo
    obtain ⟨hp1, hp2⟩ := ord_at (n := n) (ho.below hb) hlx hi
    obtain ⟨bb, bo, ea, _⟩ := hx.2.2 (by omega)
    subst ea
    refine (Pred_any XB XO XS bb bo ob oo n c m d k e i (l.getD i 0) B xs ys (grow (w.drewN q) os) (cell_below hb cB) (cell_below hb cO) (cell_below hb cS) (hx.below hb) (hy.below hb) hp2 hi hp1 hnc).mono ?_
    rintro e w' ⟨rfl, hb', hd⟩
    exact ⟨rfl, grown_of_below hb' hd⟩) hmono
  obtain ⟨P, h1, h2, h3, h4⟩ := count_turn (fun i => !lexlt (xs.drop (l.getD i 0)) ys) m hmono
  refine key.mono ?_
  rintro e w' ⟨rfl, q, os, rfl⟩
  refine ⟨⟨P, by rw [← h2], h1, fun i hi => ?_, fun i hi hin => ?_⟩, below_grown_sl w.heap.size w q os (Nat.le_refl _)⟩
  · have := h3 i hi
    simpa using this
  · have := h4 i hi hin
    simpa using this
end Go.Proofs.Ytcelkneeedebiaa
