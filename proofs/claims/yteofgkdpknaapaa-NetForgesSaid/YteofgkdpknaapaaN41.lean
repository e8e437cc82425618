/- NetForges: the walk. -/
import Derived.Test.YteofgkdpknaapaaN39
namespace Go.Proofs.Yteofgkdpknaapaa
open Go.RowKit Go.Sort

theorem elemRF : Try.prog.elem 22 = 55 := by kernel_rfl
theorem undRF : Try.prog.underlying 22 = some (.slice (Try.prog.elem 22)) := by rw [elemRF]; exact Try.underlying22
theorem cellsRF : Try.prog.cellsOf 55 = 5 := by kernel_rfl
theorem run_raw_hF (A : Option Addr) (n c i : Nat) (hi : i ≤ c) (w : World) : (Instr.slice 22 (.slice A n c) none (some (.int .i64 (i : Int))) none).run Try.prog w = .ok (.slice A i c) w := by
  obtain ⟨iE, hi', _⟩ := info_parts info55
  rw [run_slice_h (P := Try.prog) w 22 A n c undRF .i64 (i : Int) (by omega) (by omega), elemRF, run_sizeOf w hi', cellsRF]
  simp only [Result.andThen_ok, sliced, Int.toNat_natCast]
  cases A with
  | none => simp
  | some a => cases a; simp [Addr.add] <;> rfl
theorem RawsAt.takeF {w : World} {A : Option Addr} {n i : Nat} {xs : List Rw} (h : RawsAt w A n xs) (hi : i ≤ n) : RawsAt w A i (xs.take i) := by
  obtain ⟨vs, h1, h2, h3⟩ := h
  refine ⟨vs.take i, ?_, by rw [List.map_take, h2], fun v hv => h3 v (List.mem_of_mem_take hv)⟩
  have hl := h1.lenf wvC_len (by omega)
  obtain ⟨a1, a2, a3⟩ := h1
  have e : (vs.take i).flatMap wvC = (vs.flatMap wvC).take (i * 5) := by
    have hfl : ∀ xs : List Wv, (xs.flatMap wvC).length = xs.length * 5 := fun xs => flat_length wvC_len xs
    conv => rhs; rw [← List.take_append_drop i vs, List.flatMap_append]
    rw [List.take_left' (by rw [hfl, List.length_take, Nat.min_eq_left (by omega)])]
  rw [e]
  refine ⟨by rw [List.length_take, a1]; omega, by omega, fun h => ?_⟩
  obtain ⟨b, off, e1, e2⟩ := a3 (by omega)
  exact ⟨b, off, e1, fun j u hu => e2 j u (by rw [List.getElem?_take] at hu; split at hu; exact hu; cases hu)⟩
theorem PksAt.atF {w : World} {A : Option Addr} {n k : Nat} {ps : List Pk} {x : Pk} (h : PksAt w A n ps) (hx : ps[k]? = some x) : ∃ cb co v, A = some ⟨cb, co, none⟩ ∧ ∀ W, Below w.heap.size w W → W.rangeAt cb (co + k * 7) (pvC v) ∧ PvOk W v x := by
  have hl := h.len
  obtain ⟨vs, ht, hp⟩ := h
  have hk : k < n := by rw [← hl]; exact (List.getElem?_eq_some_iff.1 hx).1
  have hvl := ht.1.lenf pvC_len (by omega)
  obtain ⟨v, hv⟩ : ∃ q, vs[k]? = some q := ⟨_, List.getElem?_eq_getElem (by omega)⟩
  obtain ⟨cb, co, e, -⟩ := ht.1.2.2 (by omega)
  subst e
  exact ⟨cb, co, v, rfl, fun W hW => ⟨rd_row pvC_len (by omega) (ht.below hW).1 hv, (hp.2 k v x hv hx).below hW⟩⟩
theorem PksAt.keptF {w w' : World} {A : Option Addr} {n X : Nat} {cs : Array Value} {ps : List Pk} {S : Nat → Prop} (h : PksAt w A n ps) (hX : Blk w X 30 cs) (hk : KeptIn S w w') (hS : S = fun b => b < w.heap.size ∧ b ≠ X) : PksAt w' A n ps := by
  have hs : ∀ t, t ≠ 30 → ∀ b cur, Blk w b t cur → S b := fun t h b cur hb => by rw [hS]; exact ⟨hb.lt, hb.ne hX h⟩
  obtain ⟨vs, ht, hp⟩ := h
  exact ⟨vs, ht.keptIn hk (hs _ (by decide)), hp.keptIn hk (hs _ (by decide)) (hs _ (by decide)) (hs _ (by decide))⟩
theorem OwnP.setNetF {w : World} {base n g : Nat} {v u : Value} {cs : Array Value} {ps : List Pk} (h : OwnP w base v n ps) (hB : Blk w g 30 cs) : OwnP (w.setCell ⟨g, 0, none⟩ u) base v n ps := by
  have k1 : KeptIn (fun q => q ≠ g) w (w.setCell ⟨g, 0, none⟩ u) := (KeptIn.refl (fun q => q ≠ g) w).setAt (fun hk => hk rfl) _
  have hs : ∀ t, t ≠ 30 → ∀ b cur, Blk w b t cur → b ≠ g := fun t h b cur hb => hb.ne hB h
  obtain ⟨⟨us, h1, h2⟩, h3⟩ := h
  refine ⟨⟨us, h1.kept (KeptIn.grownBut k1) ?_, h2.keptIn k1 (hs _ (by decide)) (hs _ (by decide)) (hs _ (by decide))⟩, fun q e => ?_⟩
  · refine .inr fun e => ?_
    obtain ⟨cur, hc⟩ := h3 g e
    exact hc.ne hB (by decide) rfl
  · obtain ⟨cur, hc⟩ := h3 q e
    exact ⟨cur, hc.keptIn k1 (hs _ (by decide) q cur hc)⟩
theorem OwnP.ptrF {w : World} {base n c : Nat} {A : Option Addr} {ps : List Pk} (h : OwnP w base (.slice A n c) n ps) (hn : 0 < n) : ∃ g o, A = some ⟨g, o, none⟩ := by
  obtain ⟨A', c', e, _, us, ht, _⟩ := h.pks
  cases e
  obtain ⟨g, o, e, _⟩ := ht.1.2.2 hn
  exact ⟨g, o, e⟩
/-- A packet of a slice of one's own is set. -/
theorem OwnP.setPkF {w : World} {base n c g o i : Nat} {ps : List Pk} {v : Pv} {x : Pk} (h : OwnP w base (.slice (some ⟨g, o, none⟩) n c) n ps) (hi : i < n) (hv : PvOk w v x) :
    w.there g (o + i * 7) 7 ∧ PksAt (w.setCells g (o + i * 7) (pvC v)) (some ⟨g, o, none⟩) n (ps.set i x) ∧ base ≤ g := by
  obtain ⟨⟨us, h1, h2⟩, h3⟩ := h
  obtain ⟨cur, hB⟩ := h3 g rfl
  obtain ⟨A, c', e, _, ht⟩ := h1.trd7
  cases e
  have hs : ∀ t, t ≠ 39 → ∀ b cur, Blk w b t cur → b ≠ g := fun t h b cur hb => hb.ne hB h
  have hk := kept_setCells7 w g (o + i * 7) v
  refine ⟨trd_there ht hi, PksAt.of (trd_set7 (q := v) ht hi) ((h2.set i hv).keptIn hk (hs _ (by decide)) (hs _ (by decide)) (hs _ (by decide))), (h1.lt g rfl).1⟩
theorem set_self {P : List Pk} {k : Nat} {x : Pk} (h : P[k]? = some x) : P.set k x = P := by
  refine List.ext_getElem? fun j => ?_
  rw [List.getElem?_set]
  split
  · rename_i e
    subst e
    split
    · exact h.symm
    · rename_i h2
      rw [List.getElem?_eq_none (by omega)] at h
      cases h
  · rfl
theorem xor_set0 (bs : List UInt8) (a : Nat) : bs.set a (bs.getD a 0 ^^^ 0) = bs := by
  rw [UInt8.xor_zero]
  refine List.ext_getElem? fun j => ?_
  rw [List.getElem?_set]
  split
  · rename_i e
    subst e
    split
    · rename_i h2
      rw [List.getD_eq_getElem?_getD, List.getElem?_eq_getElem h2]
      rfl
    · rename_i h2
      rw [List.getElem?_eq_none (by omega)]
  · rfl
theorem forge_twice {bs : List UInt8} {a : Nat} {y : UInt8} (h : a < bs.length) : (bs.set a (bs.getD a 0 ^^^ y)).set a ((bs.set a (bs.getD a 0 ^^^ y)).getD a 0 ^^^ y) = bs := by
  have e : (bs.set a (bs.getD a 0 ^^^ y)).getD a 0 = bs.getD a 0 ^^^ y := by
    rw [List.getD_eq_getElem?_getD, List.getElem?_set_self h]; rfl
  rw [e, List.set_set, UInt8.xor_assoc, UInt8.xor_self]
  exact xor_set0 bs a
theorem forge_bad {P : List Pk} {k a : Nat} {x : Pk} {y : UInt8} {bs : List UInt8} (hx : P[k]? = some x) (ha : a < bs.length) (hb : bs = bytP x) (h : parP (bs.set a (bs.getD a 0 ^^^ y)) = none) : forgeP P (k : Int) (a : Int) y = (P.eraseIdx k, 0) := by
  have hk := (List.getElem?_eq_some_iff.1 hx).1
  unfold forgeP
  rw [if_pos ⟨by omega, by omega⟩]
  simp only [Int.toNat_natCast]
  rw [show P.getD k pk0 = x by rw [List.getD_eq_getElem?_getD, hx]; rfl, ← hb, if_pos ⟨by omega, by omega⟩, h]
theorem forge_good {P : List Pk} {k a : Nat} {x q : Pk} {y : UInt8} {bs : List UInt8} (hx : P[k]? = some x) (ha : a < bs.length) (hb : bs = bytP x) (h : parP (bs.set a (bs.getD a 0 ^^^ y)) = some q) : forgeP P (k : Int) (a : Int) y = (P.set k q, 0) := by
  have hk := (List.getElem?_eq_some_iff.1 hx).1
  unfold forgeP
  rw [if_pos ⟨by omega, by omega⟩]
  simp only [Int.toNat_natCast]
  rw [show P.getD k pk0 = x by rw [List.getD_eq_getElem?_getD, hx]; rfl, ← hb, if_pos ⟨by omega, by omega⟩, h]
theorem forge_out {P : List Pk} {k : Nat} {a : Int} {y : UInt8} (hk : k < P.length) (h : ¬ (0 ≤ a ∧ a < ((bytP (P.getD k pk0)).length : Int))) : forgeP P (k : Int) a y = (P, 1) := by
  unfold forgeP
  rw [if_pos ⟨by omega, by omega⟩]
  simp only [Int.toNat_natCast]
  rw [if_neg h]
theorem forge_none {x : Pk} {a : Nat} {y : UInt8} {bs : List UInt8} (_ : a < bs.length) (hb : bs = bytP x) (hv : validP x = true) (h : parP (bs.set a (bs.getD a 0 ^^^ y)) = none) : ¬ y = 0 := fun e => by
  rw [e, xor_set0, hb, parP_of hv] at h
  cases h
theorem forge_same {x q : Pk} {a Y : Nat} {y : UInt8} {bs : List UInt8} (ha : a < bs.length) (hb : bs = bytP x) (hv : validP x = true) (h : parP (bs.set a (bs.getD a 0 ^^^ y)) = some q) (hY : Y = y.toNat) : q = x ↔ Y = 0 := by
  constructor
  · intro e
    have hi := (parP_inv h).1
    rw [e, ← hb] at hi
    have h1 : bs[a]? = (bs.set a (bs.getD a 0 ^^^ y))[a]? := by rw [← hi]
    rw [List.getElem?_set_self ha, List.getElem?_eq_getElem ha] at h1
    have h2 : bs.getD a 0 = bs[a] := by rw [List.getD_eq_getElem?_getD, List.getElem?_eq_getElem ha]; rfl
    rw [h2] at h1
    injection h1 with h1
    have h3 : bs[a] ^^^ bs[a] = bs[a] ^^^ (bs[a] ^^^ y) := by rw [← h1]
    rw [← UInt8.xor_assoc, UInt8.xor_self, UInt8.zero_xor] at h3
    rw [hY, ← h3]
    rfl
  · intro e
    have hy : y = 0 := UInt8.toNat_inj.1 (by rw [← hY, e]; rfl)
    rw [hy, xor_set0, hb, parP_of hv] at h
    exact (Option.some.inj h).symm
set_option maxRecDepth 100000 in
set_option maxHeartbeats 2000000 in
theorem NetForges_any (A : Option Addr) (n c : Nat) (xs : List Rw) (q0n q1n : Nat) (y : UInt8) (w : World) (hx : RawsAt w A n xs) (hnc : n ≤ c) (hq0 : q0n < 65536) (hq1 : q1n < 65536) :
    Calls Try.prog 8 #[.slice A n c, .agg #[.int .u16 (q0n : Int), .int .u16 (q1n : Int)], .int .u8 (y.toNat : Int)] w fun e w' => e = .returned (.bool true) ∧ Below w.heap.size w w' := by
  obtain ⟨i39, hi39, hz39, hs39, hy39⟩ := info_parts info39
  obtain ⟨i30, hi30, hz30, _, _⟩ := info_parts info30
  obtain ⟨i0, hi0, hz0, hz1, hz2⟩ := info_parts info5
  obtain ⟨d39, hd39, hrow39⟩ := und39
  obtain ⟨d30, hd30, hrow30⟩ := und30
  obtain ⟨Y, hYe⟩ : ∃ q, q = y.toNat := ⟨_, rfl⟩
  have hY : Y < 256 := by have := y.toNat_lt; omega
  rw [← hYe]
  have HY := Lib.hid hYe
  clear hYe
  obtain ⟨w1, hw1⟩ : ∃ q, q = w.alloc (.cells #[.int .u16 (q0n : Int), .int .u16 (q1n : Int)] 57) := ⟨_, rfl⟩
  have hb1 : Below w.heap.size w w1 := by rw [hw1]; exact (Below.refl _ _).alloc (Nat.le_refl _) _
  have HWb := Lib.hid (show Blk w1 w.heap.size 57 #[.int .u16 (q0n : Int), .int .u16 (q1n : Int)] by rw [hw1]; exact Blk.new _ _ _)
  have HW1 := Lib.hid hw1
  have HB := Lib.hid hb1
  have Hx := Lib.hid (hx.below hb1)
  clear hw1 hb1 hx
  go_enter Try.func8, Try.ntmps8
  go_upto_region 1 with fail
  rw [← HW1.out]
  go_upto_region 2 with fail
  refine (sanity_any w1).mono ?_
  rintro e v1 ⟨rfl, hb_⟩
  replace HB := Lib.hid (HB.out.trans (hb_.mono HB.out.size))
  replace HWb := Lib.hid (HWb.out.below hb_ HWb.out.lt)
  replace Hx := Lib.hid (Hx.out.below hb_)
  clear hb_
  obtain ⟨K, hK⟩ : ∃ q, q = min n 20 := ⟨_, rfl⟩
  have HK := Lib.hid hK
  have hsl := run_raw_hF A n c K (by omega)
  clear hK
  go_upto_region 3 with (refine wpList_min rfl (.tmp 24) (.const (.int .i64 20)) _ rfl _ _ (K : Int) rfl rfl (by have := HK.out; omega) ?_)
  clear hsl
  refine (MadeNet0_any A K c (xs.take K) v1 (Hx.out.takeF (by have := HK.out; omega))).mono ?_
  rintro e v2 ⟨⟨A8, N8, c8, rfl, hc8, hN8, hp_⟩, hb_⟩
  replace HB := Lib.hid (HB.out.trans (hb_.mono HB.out.size))
  replace HWb := Lib.hid (HWb.out.below hb_ HWb.out.lt)
  replace Hx := Lib.hid (Hx.out.below hb_)
  clear hb_
  obtain ⟨P, hP⟩ : ∃ q, q = ((xs.take K).take 64).map madeP := ⟨_, rfl⟩
  rw [← hP] at hp_
  have HPok := Lib.hid (show ∀ x ∈ P, okP x from fun x hx => (made_ok (xs.take K) 64 x (hP ▸ hx)).1)
  have HPv := Lib.hid (show ∀ x ∈ P, validP x = true from fun x hx => (made_ok (xs.take K) 64 x (hP ▸ hx)).2)
  obtain rfl : P.length = N8 := hp_.len
  have Hn := Lib.hid hp_
  clear hp_ hP HK
  clear Hx
  go_upto_region 3 with (first | (refine wpList_alloc0 rfl 30 rfl #[.slice none 0 0] _ i30 hi30 hz30 rfl ?_; simp only [Act.put, List.setIfInBounds_toArray, List.set_cons_succ, List.set_cons_zero]; try simp only [World.size_alloc]) | (refine wpList_store_row rfl 30 (.tmp 8) (.tmp 27) rfl v2.heap.size #[.slice A8 P.length c8] rfl rfl 30 _ (Blk.new v2 _ _) (size30 _ rfl) rfl (net_one _ _ _) ?_; rw [alloc_setRow]))
  obtain ⟨X8, hX8⟩ : ∃ q, q = v2.heap.size := ⟨_, rfl⟩
  obtain ⟨v3, hv3⟩ : ∃ q, q = v2.alloc (.cells #[.slice A8 P.length c8] 30) := ⟨_, rfl⟩
  have hb_ : Below v2.heap.size v2 v3 := by rw [hv3]; exact (Below.refl _ _).alloc (Nat.le_refl _) _
  have HBX8 := Lib.hid (show Blk v3 X8 30 #[.slice A8 P.length c8] by rw [hv3, hX8]; exact Blk.new _ _ _)
  have hlX8 : w.heap.size ≤ X8 := by have := HB.out.size; omega
  rw [← hv3, ← hX8]
  replace HB := Lib.hid (HB.out.trans (hb_.mono HB.out.size))
  replace HWb := Lib.hid (HWb.out.below hb_ HWb.out.lt)
  replace Hn := Lib.hid (Hn.out.below hb_)
  clear hb_ hv3 hX8
  have cxX8 : v3.cell? ⟨X8, 0, none⟩ = some (.slice A8 P.length c8) := (HBX8.out.cell 0).trans rfl
  by_cases hP0 : P.length = 0
  · skip
    have dP : decide ((P.length : Int) = 0) = true := decide_eq_true (by omega)
    have dPn : decide (P.length = 0) = true := decide_eq_true hP0
    have dPb : ((P.length : Int) == 0) = true := by rw [beq_iff_eq]; omega
    go_wp2_with fail
    go_ret
    exact ⟨rfl, HB.out⟩
  · skip
    have dP : decide ((P.length : Int) = 0) = false := decide_eq_false (by omega)
    have dPn : decide (P.length = 0) = false := decide_eq_false hP0
    have dPb : ((P.length : Int) == 0) = false := by rw [beq_eq_false_iff_ne]; omega
    have hP0i : ¬ (P.length : Int) = 0 := by omega
    go_upto_region 5 with fail
    have g0 : v3.cell? ⟨w.heap.size, 0, none⟩ = some (.int .u16 (q0n : Int)) := (HWb.out.cell 0).trans rfl
    have hq0w : IntKind.i64.wrap (q0n : Int) = (q0n : Int) := by rw [IntKind.wrap_i64]; omega
    obtain ⟨k, hk'⟩ : ∃ q, q = q0n % P.length := ⟨_, rfl⟩
    have hk : k < P.length := by rw [hk']; exact Nat.mod_lt _ (by omega)
    have Hkr := Lib.hid (show (q0n : Int) % (P.length : Int) = (k : Int) by rw [hk']; simp)
    clear hk'
    go_upto_region 6 with fail
    rw [Hkr.out]
    clear hq0w Hkr g0
    obtain ⟨x, hx⟩ : ∃ q, P[k]? = some q := ⟨_, List.getElem?_eq_getElem hk⟩
    have hxo := HPok.out x (List.mem_of_getElem? hx)
    have hxv := HPv.out x (List.mem_of_getElem? hx)
    obtain ⟨cb, co, v, hAe, hrow⟩ := Hn.out.atF hx
    subst hAe
    have Hrow := Lib.hid hrow
    have Hbr := Lib.hid (Below.refl v3.heap.size v3)
    have Hx := Lib.hid hx
    clear hrow hx
    have hk0 : (0 : Int) ≤ (k : Int) := by omega
    have hkL : (k : Int) < (P.length : Int) := by omega
    have hPne : P ≠ [] := fun e => by rw [e] at hk; exact absurd hk (by simp)
    obtain ⟨bs, hbs⟩ : ∃ q, q = bytP x := ⟨_, rfl⟩
    have Hbs := Lib.hid hbs
    clear hbs
    have Hrw := Lib.hid (Hrow.out v3 Hbr.out).1
    go_upto_region 7 with (refine wpList_load_mid rfl 39 (.tmp 43) rfl cb (co + k * 7) rfl (pvC v) d39 Hrw.out hd39 hrow39 (by rw [pvC_len]; kernel_rfl) ?_)
    clear Hrw cxX8
    refine (NBytesL_any v x bs v3 (Hrow.out v3 Hbr.out).2 hxv Hbs.out.symm).mono ?_
    rintro e v11 ⟨⟨A10, c10, rfl, hc10, hr_⟩, hb_⟩
    replace Hbr := Lib.hid (Hbr.out.trans (hb_.mono Hbr.out.size))
    replace HB := Lib.hid (HB.out.trans (hb_.mono HB.out.size))
    replace HWb := Lib.hid (HWb.out.below hb_ HWb.out.lt)
    replace Hn := Lib.hid (Hn.out.below hb_)
    replace HBX8 := Lib.hid (HBX8.out.below hb_ HBX8.out.lt)
    clear hb_
    clear hr_
    obtain ⟨L, hL⟩ : ∃ q, q = bs.length := ⟨_, rfl⟩
    rw [← hL] at hc10
    have HL := Lib.hid hL
    have hL3 : 3 ≤ L := by rw [hL, Hbs.out]; exact bytP_three x
    have hL5 : L ≤ 50000 := by rw [hL, Hbs.out]; exact bytP_bound hxv
    rw [← hL]
    clear hL
    have d3 : decide ((L : Int) < 3) = false := decide_eq_false (by omega)
    have d3' : ¬ (L : Int) < 3 := by omega
    have d3n : decide (L < 3) = false := decide_eq_false (by omega)
    go_upto_region 9 with fail
    clear d3 d3' d3n
    have g1 : v11.cell? ⟨w.heap.size, 1, none⟩ = some (.int .u16 (q1n : Int)) := (HWb.out.cell 1).trans rfl
    have hq1w : IntKind.i64.wrap (q1n : Int) = (q1n : Int) := by rw [IntKind.wrap_i64]; omega
    have hL0 : ¬ (L : Int) = 0 := by omega
    obtain ⟨a, ha'⟩ : ∃ q, q = q1n % L := ⟨_, rfl⟩
    have ha : a < L := by rw [ha']; exact Nat.mod_lt _ (by omega)
    have Har := Lib.hid (show (q1n : Int) % (L : Int) = (a : Int) by rw [ha']; simp)
    clear ha'
    have q01 : (1 : Int) ≥ 0 := by omega
    go_upto_region 10 with fail
    rw [Har.out]
    clear hq1w Har g1 hL0 q01
    clear HWb
    obtain ⟨bt, hbt⟩ : ∃ q, q = bs.set a (bs.getD a 0 ^^^ y) := ⟨_, rfl⟩
    have Hbt := Lib.hid hbt
    clear hbt
    have HaL := Lib.hid (show a < bs.length from by rw [← HL.out]; exact ha)
    cases hpar : parP bt with
    | none =>
      have Hpar := Lib.hid hpar
      clear hpar
      have hY0 : ¬ Y = 0 := fun e => forge_none HaL.out Hbs.out hxv (Hbt.out ▸ Hpar.out) (UInt8.toNat_inj.1 (by rw [← HY.out, e]; rfl))
      have y1 : decide ((Y : Int) = 0) = false := decide_eq_false (by omega)
      have y2 : ((Y : Int) == 0) = false := by rw [beq_eq_false_iff_ne]; omega
      have y3 : decide (Y = 0) = false := decide_eq_false hY0
      have y4 : ((Y : Int) != 0) = true := by rw [bne_iff_ne]; omega
      obtain ⟨E, hE⟩ : ∃ q, q = P.eraseIdx k := ⟨_, rfl⟩
      have HE := Lib.hid hE
      have HEl := Lib.hid (show E.length + 1 = P.length by rw [hE, List.length_eraseIdx_of_lt hk]; omega)
      have HEok := Lib.hid (show ∀ x ∈ E, okP x from fun x hx => HPok.out x (List.mem_of_mem_eraseIdx (hE ▸ hx)))
      clear hE
      have Hfp := Lib.hid (show forgeP P (k : Int) (a : Int) (UInt8.ofNat Y) = (E, 0) by rw [HY.out, UInt8.ofNat_toNat]; exact by rw [HE.out]; exact forge_bad Hx.out HaL.out Hbs.out (Hbt.out ▸ Hpar.out))
      have Hk := Lib.hid (Blk.range HBX8.out)
      go_upto_region 11 with (refine wpList_load_mid rfl 30 (.tmp 8) rfl X8 0 rfl [.slice (some ⟨cb, co, none⟩) P.length c8] d30 Hk.out hd30 hrow30 (by skip; kernel_rfl) ?_)
      clear Hk
      refine (Forge0_any (some ⟨cb, co, none⟩) P.length c8 P (k : Int) (a : Int) Y E 0 v11 Hn.out hc8 (by omega) HPv.out ⟨hY, Hfp.out⟩).mono ?_
      rintro e v41 ⟨⟨A12, N12, c12, rfl, hc12, hp_⟩, hb_⟩
      replace Hbr := Lib.hid (Hbr.out.trans (hb_.mono Hbr.out.size))
      replace HB := Lib.hid (HB.out.trans (hb_.mono HB.out.size))
      replace Hn := Lib.hid (Hn.out.below hb_)
      replace HBX8 := Lib.hid (HBX8.out.below hb_ HBX8.out.lt)
      clear hb_
      have Hp_ := Lib.hid hp_
      clear hp_
      clear Hfp
      obtain ⟨M, hM⟩ : ∃ q, q = E.length := ⟨_, rfl⟩
      have HM := Lib.hid (show M + 1 = P.length by rw [hM]; exact HEl.out)
      obtain rfl : M = N12 := by rw [hM]; exact Hp_.out.len
      clear hM
      have Hm := Lib.hid Hp_.out
      clear Hp_
      go_upto_region 11 with (first | (refine wpList_alloc0 rfl 30 rfl #[.slice none 0 0] _ i30 hi30 hz30 rfl ?_; simp only [Act.put, List.setIfInBounds_toArray, List.set_cons_succ, List.set_cons_zero]; try simp only [World.size_alloc]) | (refine wpList_store_row rfl 30 (.tmp 12) (.tmp 61) rfl v41.heap.size #[.slice A12 M c12] rfl rfl 30 _ (Blk.new v41 _ _) (size30 _ rfl) rfl (net_one _ _ _) ?_; rw [alloc_setRow]))
      obtain ⟨X12, hX12⟩ : ∃ q, q = v41.heap.size := ⟨_, rfl⟩
      obtain ⟨v42, hv42⟩ : ∃ q, q = v41.alloc (.cells #[.slice A12 M c12] 30) := ⟨_, rfl⟩
      have hb_ : Below v41.heap.size v41 v42 := by rw [hv42]; exact (Below.refl _ _).alloc (Nat.le_refl _) _
      have HBX12 := Lib.hid (show Blk v42 X12 30 #[.slice A12 M c12] by rw [hv42, hX12]; exact Blk.new _ _ _)
      have hlX12 : w.heap.size ≤ X12 := by have := HB.out.size; omega
      rw [← hv42, ← hX12]
      have hoX8X12 : X8 < X12 := by have := HBX8.out.lt; omega
      replace Hbr := Lib.hid (Hbr.out.trans (hb_.mono Hbr.out.size))
      replace HB := Lib.hid (HB.out.trans (hb_.mono HB.out.size))
      replace Hn := Lib.hid (Hn.out.below hb_)
      replace HBX8 := Lib.hid (HBX8.out.below hb_ HBX8.out.lt)
      replace Hm := Lib.hid (Hm.out.below hb_)
      clear hb_ hv42 hX12
      have cxX12 : v42.cell? ⟨X12, 0, none⟩ = some (.slice A12 M c12) := (HBX12.out.cell 0).trans rfl
      have cxX8 : v42.cell? ⟨X8, 0, none⟩ = some (.slice (some ⟨cb, co, none⟩) P.length c8) := (HBX8.out.cell 0).trans rfl
      have n1 : ((M : Int) == (P.length : Int)) = false := by rw [beq_eq_false_iff_ne]; have := HM.out; omega
      have n2 : decide ((M : Int) = (P.length : Int)) = false := decide_eq_false (by have := HM.out; omega)
      have n3 : decide (M = P.length) = false := decide_eq_false (by have := HM.out; omega)
      have n4 : ¬ (M : Int) = (P.length : Int) := by have := HM.out; omega
      have n5 : ¬ M = P.length := by have := HM.out; omega
      have n6 : (M == P.length) = false := by rw [beq_eq_false_iff_ne]; exact n5
      have n7 : ((M : Int) != (P.length : Int)) = true := by rw [bne_iff_ne]; exact n4
      go_upto_region 14 with fail
      clear n1 n2 n3 n4 n5 n6 n7 cxX12 cxX8
      obtain ⟨bR, hbR⟩ : ∃ q, q = v42.heap.size := ⟨_, rfl⟩
      obtain ⟨v43, hv43⟩ : ∃ q, q = v42.alloc (.cells #[] 39) := ⟨_, rfl⟩
      have HbR := Lib.hid (show Below v42.heap.size v42 v43 by rw [hv43]; exact (Below.refl _ _).alloc (Nat.le_refl _) _)
      have HoR := Lib.hid (show OwnP v43 bR (.slice (some ⟨bR, 0, none⟩) 0 0) 0 [] by rw [hv43, hbR]; exact OwnP.empty v42 (Nat.le_refl _))
      have hsR : bR ≤ v43.heap.size := by have := HbR.out.size; omega
      have HzR := Lib.hid hbR
      have HWR := Lib.hid hv43
      clear hv43 hbR
      have c8R : (v42.alloc (.cells #[] 39)).cell? ⟨X8, 0, none⟩ = some (.slice (some ⟨cb, co, none⟩) P.length c8) := by rw [← HWR.out]; exact ((HBX8.out.below HbR.out HBX8.out.lt).cell 0).trans rfl
      have hsl1 := run_pk_h (some ⟨cb, co, none⟩) P.length c8 k (by omega)
      have Hlk := Lib.hid (Hn.out.take (i := k) (by omega))
      go_upto_region 15 with (first | (refine wpList_run rfl (.slice (some ⟨cb, co, none⟩) k c8) (run_slice_op (.tmp 74) none (some (.tmp 75)) none rfl _ _ (hsl1 _)) ?_) | (at_builtin; rw [← HWR.out, ← HzR.out]; refine wpList_ownp rfl (.tmp 72) (.tmp 76) rfl bR hsR _ 0 [] rfl HoR.out (some ⟨cb, co, none⟩) k c8 (P.take k) rfl (Hlk.out.below HbR.out) (by omega) ?_; intro v_R waR ho_R hb_R hk_R; rw [Nat.zero_add, List.nil_append] at ho_R; obtain ⟨AR, cR, rfl, hcR, hp_R⟩ := ho_R.pks; have HOR := Lib.hid ho_R; have HpR := Lib.hid hp_R; have HBR := Lib.hid (show Below v42.heap.size v42 waR from HbR.out.trans (HzR.out ▸ hb_R)); clear ho_R hp_R hb_R hk_R; clear hsl1 c8R))
      have hsR2 : bR ≤ waR.heap.size := by have := HBR.out.size; have := HzR.out; omega
      have hsl2 := run_pk_l (some ⟨cb, co, none⟩) P.length c8 (k + 1) (by omega)
      obtain ⟨A', hA', -⟩ := dropK_if cb co c8 (k + 1)
      rw [hA'] at hsl2
      have Hld := Lib.hid (show PksAt waR A' (P.length - (k + 1)) (P.drop (k + 1)) from by have h := (Hn.out.below HBR.out).drop (i := k + 1) (c := c8) (by omega) hc8; rw [hA'] at h; exact h)
      obtain ⟨M2, hM2⟩ : ∃ q, q = P.length - (k + 1) := ⟨_, rfl⟩
      obtain ⟨C2, hC2⟩ : ∃ q, q = c8 - (k + 1) := ⟨_, rfl⟩
      rw [← hM2, ← hC2] at hsl2
      rw [← hM2] at Hld
      have HM2 := Lib.hid hM2
      clear hM2 hC2
      have c8b : waR.cell? ⟨X8, 0, none⟩ = some (.slice (some ⟨cb, co, none⟩) P.length c8) := ((HBX8.out.below HBR.out HBX8.out.lt).cell 0).trans rfl
      go_upto_region 16 with (first | (refine wpList_run rfl (.slice A' M2 C2) (run_slice_op (.tmp 80) (some (.tmp 82)) none none rfl _ _ (hsl2 _)) ?_) | (refine wpList_run rfl (.int .i64 ((k + 1 : Nat) : Int)) (run_succ_op (.tmp 81) rfl k (by omega) rfl _) ?_) | (at_builtin; refine wpList_ownp rfl (.tmp 78) (.tmp 83) rfl bR hsR2 _ k (P.take k) rfl HOR.out A' M2 C2 (P.drop (k + 1)) rfl Hld.out (by have := HM2.out; omega) ?_; intro v_2 wb ho_2 hb_2 hk_2; obtain ⟨A14, c14, rfl, hc14, hp_2⟩ := ho_2.pks; have Ha := Lib.hid hp_2; have Hb_ := Lib.hid (HBR.out.trans (HzR.out ▸ hb_2)); clear ho_2 hp_2 hb_2 hk_2))
      replace Hbr := Lib.hid (Hbr.out.trans (Hb_.out.mono Hbr.out.size))
      replace HB := Lib.hid (HB.out.trans (Hb_.out.mono HB.out.size))
      replace Hn := Lib.hid (Hn.out.below Hb_.out)
      replace HBX8 := Lib.hid (HBX8.out.below Hb_.out HBX8.out.lt)
      replace Hm := Lib.hid (Hm.out.below Hb_.out)
      replace HBX12 := Lib.hid (HBX12.out.below Hb_.out HBX12.out.lt)
      clear Hb_ HOR HBR HbR HoR HzR HWR hsR hsR2 Hld Hlk HpR hsl2 c8b hA'
      have Hae := Lib.hid (show PksAt wb A14 (k + M2) E by have h := Ha.out; rw [← List.eraseIdx_eq_take_drop_succ, ← HE.out] at h; exact h)
      clear Ha
      have Hk := Lib.hid (Blk.range HBX12.out)
      go_wp2_with (first | (refine wpList_load_mid_g (by first | rfl | simp [Region.wanted, yielded]) 30 (.tmp 12) rfl X12 0 rfl [.slice A12 M c12] d30 Hk.out hd30 hrow30 (by skip; kernel_rfl) ?_) | (refine wpList_buildN_g (by first | rfl | simp [Region.wanted, yielded]) 30 _ rfl [(0, .slice A14 (k + M2) c14)] rfl _ (built30 A14 (k + M2) c14) ?_))
      clear Hk
      refine (SameNet_any A12 M c12 E A14 (k + M2) c14 E wb Hm.out Hae.out HEok.out HEok.out (by have := HM.out; omega) (by have := HM2.out; omega)).mono ?_
      rintro e v44 ⟨rfl, hb_⟩
      replace Hbr := Lib.hid (Hbr.out.trans (hb_.mono Hbr.out.size))
      replace HB := Lib.hid (HB.out.trans (hb_.mono HB.out.size))
      replace Hn := Lib.hid (Hn.out.below hb_)
      replace HBX8 := Lib.hid (HBX8.out.below hb_ HBX8.out.lt)
      replace Hm := Lib.hid (Hm.out.below hb_)
      replace HBX12 := Lib.hid (HBX12.out.below hb_ HBX12.out.lt)
      replace Hae := Lib.hid (Hae.out.below hb_)
      clear hb_
      rw [decide_eq_true rfl]
      go_wp2_with fail
      go_ret
      exact ⟨rfl, HB.out⟩
    | some q =>
      have Hpar := Lib.hid hpar
      clear hpar
      have Hq := Lib.hid (parP_inv Hpar.out)
      have hqv := Hq.out.2
      have hqo := okP_of hqv
      obtain ⟨M, hM⟩ : ∃ q_, q_ = P.set k q := ⟨_, rfl⟩
      have HM := Lib.hid hM
      have HMl := Lib.hid (show M.length = P.length by rw [hM, List.length_set])
      have HMk := Lib.hid (show M[k]? = some q by rw [hM, List.getElem?_set_self hk])
      have HMok := Lib.hid (show ∀ z ∈ M, okP z from fun z hz => by rw [hM] at hz; rcases List.mem_or_eq_of_mem_set hz with h | h; exact HPok.out z h; rw [h]; exact hqo)
      have HMv := Lib.hid (show ∀ z ∈ M, validP z = true from fun z hz => by rw [hM] at hz; rcases List.mem_or_eq_of_mem_set hz with h | h; exact HPv.out z h; rw [h]; exact hqv)
      have HMx := Lib.hid (show M.set k x = P by rw [hM, List.set_set]; exact set_self Hx.out)
      have Hback := Lib.hid (show forgeP M (k : Int) (a : Int) (UInt8.ofNat Y) = (P, 0) by rw [HY.out, UInt8.ofNat_toNat, ← HMx.out]; exact forge_good (bs := bt) HMk.out (by rw [Hbt.out, List.length_set]; exact HaL.out) Hq.out.1.symm (by rw [Hbt.out, forge_twice HaL.out, Hbs.out]; exact parP_of hxv))
      clear hM
      obtain ⟨b0, hb0⟩ : ∃ r, r = decide (q = x) := ⟨_, rfl⟩
      have hbY : b0 = decide (Y = 0) := by rw [hb0]; exact decide_eq_decide.2 (forge_same HaL.out Hbs.out hxv (Hbt.out ▸ Hpar.out) HY.out)
      have Hb0 := Lib.hid hb0
      have y1 : decide ((Y : Int) = 0) = b0 := by rw [hbY]; exact decide_eq_decide.2 (by omega)
      have y3 : decide (Y = 0) = b0 := hbY.symm
      have y2 : ((Y : Int) == 0) = b0 := by rw [← y1]; rfl
      have y4 : (Y == 0) = b0 := by rw [← y3]; rfl
      have Hys := Lib.hid (And.intro y1 (And.intro y2 (And.intro y3 y4)))
      clear hb0 hbY y1 y2 y3 y4
      have Hfp := Lib.hid (show forgeP P (k : Int) (a : Int) (UInt8.ofNat Y) = (M, 0) by rw [HY.out, UInt8.ofNat_toNat]; exact by rw [HM.out]; exact forge_good Hx.out HaL.out Hbs.out (Hbt.out ▸ Hpar.out))
      have Hk := Lib.hid (Blk.range HBX8.out)
      go_upto_region 11 with (refine wpList_load_mid rfl 30 (.tmp 8) rfl X8 0 rfl [.slice (some ⟨cb, co, none⟩) P.length c8] d30 Hk.out hd30 hrow30 (by skip; kernel_rfl) ?_)
      clear Hk
      refine (Forge0_any (some ⟨cb, co, none⟩) P.length c8 P (k : Int) (a : Int) Y M 0 v11 Hn.out hc8 (by omega) HPv.out ⟨hY, Hfp.out⟩).mono ?_
      rintro e v71 ⟨⟨A12, N12, c12, rfl, hc12, hp_⟩, hb_⟩
      replace Hbr := Lib.hid (Hbr.out.trans (hb_.mono Hbr.out.size))
      replace HB := Lib.hid (HB.out.trans (hb_.mono HB.out.size))
      replace Hn := Lib.hid (Hn.out.below hb_)
      replace HBX8 := Lib.hid (HBX8.out.below hb_ HBX8.out.lt)
      clear hb_
      have Hp_ := Lib.hid hp_
      clear hp_
      clear Hfp
      obtain rfl : P.length = N12 := by rw [← HMl.out]; exact Hp_.out.len
      have Hm := Lib.hid Hp_.out
      clear Hp_
      go_upto_region 11 with (first | (refine wpList_alloc0 rfl 30 rfl #[.slice none 0 0] _ i30 hi30 hz30 rfl ?_; simp only [Act.put, List.setIfInBounds_toArray, List.set_cons_succ, List.set_cons_zero]; try simp only [World.size_alloc]) | (refine wpList_store_row rfl 30 (.tmp 12) (.tmp 61) rfl v71.heap.size #[.slice A12 P.length c12] rfl rfl 30 _ (Blk.new v71 _ _) (size30 _ rfl) rfl (net_one _ _ _) ?_; rw [alloc_setRow]))
      obtain ⟨X12, hX12⟩ : ∃ q, q = v71.heap.size := ⟨_, rfl⟩
      obtain ⟨v72, hv72⟩ : ∃ q, q = v71.alloc (.cells #[.slice A12 P.length c12] 30) := ⟨_, rfl⟩
      have hb_ : Below v71.heap.size v71 v72 := by rw [hv72]; exact (Below.refl _ _).alloc (Nat.le_refl _) _
      have HBX12 := Lib.hid (show Blk v72 X12 30 #[.slice A12 P.length c12] by rw [hv72, hX12]; exact Blk.new _ _ _)
      have hlX12 : w.heap.size ≤ X12 := by have := HB.out.size; omega
      rw [← hv72, ← hX12]
      have hoX8X12 : X8 < X12 := by have := HBX8.out.lt; omega
      replace Hbr := Lib.hid (Hbr.out.trans (hb_.mono Hbr.out.size))
      replace HB := Lib.hid (HB.out.trans (hb_.mono HB.out.size))
      replace Hn := Lib.hid (Hn.out.below hb_)
      replace HBX8 := Lib.hid (HBX8.out.below hb_ HBX8.out.lt)
      replace Hm := Lib.hid (Hm.out.below hb_)
      clear hb_ hv72 hX12
      have cxX12 : v72.cell? ⟨X12, 0, none⟩ = some (.slice A12 P.length c12) := (HBX12.out.cell 0).trans rfl
      have cxX8 : v72.cell? ⟨X8, 0, none⟩ = some (.slice (some ⟨cb, co, none⟩) P.length c8) := (HBX8.out.cell 0).trans rfl
      go_upto_region 17 with fail
      clear cxX12 cxX8
      obtain ⟨db, dq, u, hAe, hrow⟩ := Hm.out.atF HMk.out
      subst hAe
      have Hrow2 := Lib.hid hrow
      have Hbr2 := Lib.hid (Below.refl v72.heap.size v72)
      clear hrow
      obtain ⟨y1, y2, y3, y4⟩ := Hys.out
      refine wp_region_flowF [96, 97, 98, 99, 100, 101, 102, 103, 104, 105, 106, 107, 108, 109, 110, 111, 112, 113, 114, 115, 116, 117, 118] [(Spec.is (.pointer (some ⟨X12, 0, none⟩)), false), (Spec.is (.slice (some ⟨db, dq, none⟩) P.length c12), false), (Spec.is (.int .i64 (k : Int)), false), (Spec.is (.pointer (some ⟨db, dq + k * 7, none⟩)), false), (Spec.is (.agg (pvC u).toArray), false), (Spec.is (.pointer (some ⟨X8, 0, none⟩)), false), (Spec.is (.slice (some ⟨cb, co, none⟩) P.length c8), false), (Spec.is (.int .i64 (k : Int)), false), (Spec.is (.pointer (some ⟨cb, co + k * 7, none⟩)), false), (Spec.is (.agg (pvC v).toArray), false), (Spec.is (.bool b0), false), (Spec.is (.int .u8 (Y : Int)), false), (Spec.is (.bool b0), false), (Spec.is (.bool false), false), (Spec.is (.bool false), false), (Spec.is (.pointer (some ⟨X12, 0, none⟩)), false), (Spec.is (.slice (some ⟨db, dq, none⟩) P.length c12), false), (Spec.is (.int .i64 (k : Int)), false), (Spec.is (.pointer (some ⟨db, dq + k * 7, none⟩)), false), (Spec.is (.agg (pvC u).toArray), false), (Spec.is (.bool true), false), (Spec.is (.bool false), false), (Spec.is (.bool false), false)] 180 (by kernel_rfl) rfl (by decide) rfl (by decide) (by kernel_rfl) ?_ ?_
      · refine ⟨?_, ?_, ?_, ?_, ?_, ?_, ?_, ?_, ?_, ?_, ?_, ?_, ?_, ?_, ?_, ?_, ?_, ?_, ?_, ?_, ?_, ?_, ?_, trivial⟩
        · intro a W hE hb hs
          have h12 : a.eval (.tmp 12) = .pointer (some ⟨X12, 0, none⟩) := hb 12 (by decide)
          refine flow0 rfl ?_
          intro K hK
          unfold Oper.wp execOp
          simp only [h12]
          simp [go_sem]
          exact hK _ _ ⟨Below.refl _ _, rfl, trivial⟩
        · intro a W hE hb hs
          have h96 : a.eval (.tmp 96) = .pointer (some ⟨X12, 0, none⟩) := hs 0 (by decide)
          refine flow0 rfl ?_
          have c0 : W.cell? ⟨X12, 0, none⟩ = some (.slice (some ⟨db, dq, none⟩) P.length c12) := ((HBX12.out.below (ext_below hE) HBX12.out.lt).cell 0).trans rfl
          intro K hK
          unfold Oper.wp execOp
          simp only [h96]
          simp [go_sem, c0]
          exact hK _ _ ⟨Below.refl _ _, rfl, trivial⟩
        · intro a W hE hb hs
          have h9 : a.eval (.tmp 9) = .int .i64 (k : Int) := hb 9 (by decide)
          refine flow0 rfl ?_
          exact val_move _ rfl _ h9 ⟨rfl, trivial⟩
        · intro a W hE hb hs
          have h97 : a.eval (.tmp 97) = .slice (some ⟨db, dq, none⟩) P.length c12 := hs 1 (by decide)
          have h98 : a.eval (.tmp 98) = .int .i64 (k : Int) := hs 2 (by decide)
          refine flow0 rfl ?_
          intro K hK
          unfold Oper.wp execOp
          simp only [h97, h98]
          simp [go_sem, hk0, hkL]
          exact hK _ _ ⟨Below.refl _ _, rfl, trivial⟩
        · intro a W hE hb hs
          have h99 : a.eval (.tmp 99) = .pointer (some ⟨db, dq + k * 7, none⟩) := hs 3 (by decide)
          refine flow0 rfl ?_
          exact val_load_row 39 _ rfl db (dq + k * 7) h99 (pvC u) d39 ((Hrow2.out W (Hbr2.out.trans ((ext_below hE).mono Hbr2.out.size))).1) hd39 hrow39 (by rw [pvC_len]; kernel_rfl) ⟨rfl, trivial⟩
        · intro a W hE hb hs
          have h8 : a.eval (.tmp 8) = .pointer (some ⟨X8, 0, none⟩) := hb 8 (by decide)
          refine flow0 rfl ?_
          intro K hK
          unfold Oper.wp execOp
          simp only [h8]
          simp [go_sem]
          exact hK _ _ ⟨Below.refl _ _, rfl, trivial⟩
        · intro a W hE hb hs
          have h101 : a.eval (.tmp 101) = .pointer (some ⟨X8, 0, none⟩) := hs 5 (by decide)
          refine flow0 rfl ?_
          have c0 : W.cell? ⟨X8, 0, none⟩ = some (.slice (some ⟨cb, co, none⟩) P.length c8) := ((HBX8.out.below (ext_below hE) HBX8.out.lt).cell 0).trans rfl
          intro K hK
          unfold Oper.wp execOp
          simp only [h101]
          simp [go_sem, c0]
          exact hK _ _ ⟨Below.refl _ _, rfl, trivial⟩
        · intro a W hE hb hs
          have h9 : a.eval (.tmp 9) = .int .i64 (k : Int) := hb 9 (by decide)
          refine flow0 rfl ?_
          exact val_move _ rfl _ h9 ⟨rfl, trivial⟩
        · intro a W hE hb hs
          have h102 : a.eval (.tmp 102) = .slice (some ⟨cb, co, none⟩) P.length c8 := hs 6 (by decide)
          have h103 : a.eval (.tmp 103) = .int .i64 (k : Int) := hs 7 (by decide)
          refine flow0 rfl ?_
          intro K hK
          unfold Oper.wp execOp
          simp only [h102, h103]
          simp [go_sem, hk0, hkL]
          exact hK _ _ ⟨Below.refl _ _, rfl, trivial⟩
        · intro a W hE hb hs
          have h104 : a.eval (.tmp 104) = .pointer (some ⟨cb, co + k * 7, none⟩) := hs 8 (by decide)
          refine flow0 rfl ?_
          exact val_load_row 39 _ rfl cb (co + k * 7) h104 (pvC v) d39 ((Hrow.out W (Hbr.out.trans ((ext_below hE).mono Hbr.out.size))).1) hd39 hrow39 (by rw [pvC_len]; kernel_rfl) ⟨rfl, trivial⟩
        · intro a W hE hb hs
          have h100 : a.eval (.tmp 100) = .agg (pvC u).toArray := hs 4 (by decide)
          have h105 : a.eval (.tmp 105) = .agg (pvC v).toArray := hs 9 (by decide)
          refine flow0 rfl ?_
          exact val_call 18 _ _ rfl (by kernel_rfl) [.agg (pvC u).toArray, .agg (pvC v).toArray] (by show [a.eval (.tmp 100), a.eval (.tmp 105)] = _; rw [h100, h105]) ((Same_any u v q x W (Hrow2.out W (Hbr2.out.trans ((ext_below hE).mono Hbr2.out.size))).2 (Hrow.out W (Hbr.out.trans ((ext_below hE).mono Hbr.out.size))).2 hqo hxo).mono (by rintro e W' ⟨rfl, hb⟩; rw [← Hb0.out]; exact ⟨_, rfl, hb, rfl, trivial⟩))
        · intro a W hE hb hs
          have h2 : a.eval (.tmp 2) = .int .u8 (Y : Int) := hb 2 (by decide)
          refine flow0 rfl ?_
          exact val_move _ rfl _ h2 ⟨rfl, trivial⟩
        · intro a W hE hb hs
          have h107 : a.eval (.tmp 107) = .int .u8 (Y : Int) := hs 11 (by decide)
          refine flow0 rfl ?_
          intro K hK
          unfold Oper.wp execOp
          simp only [h107, BigFrame.eval_const]
          simp [go_sem, y2]
          exact hK _ _ ⟨Below.refl _ _, rfl, trivial⟩
        · intro a W hE hb hs
          have h106 : a.eval (.tmp 106) = .bool b0 := hs 10 (by decide)
          have h108 : a.eval (.tmp 108) = .bool b0 := hs 12 (by decide)
          refine flow0 rfl ?_
          intro K hK
          unfold Oper.wp execOp
          simp only [h106, h108]
          simp [go_sem]
          exact hK _ _ ⟨Below.refl _ _, rfl, trivial⟩
        · intro a W hE hb hs
          have h109 : a.eval (.tmp 109) = .bool false := hs 13 (by decide)
          refine flow0 rfl ?_
          exact val_move _ rfl _ h109 ⟨rfl, trivial⟩
        · intro a W hE hb hs
          have h12 : a.eval (.tmp 12) = .pointer (some ⟨X12, 0, none⟩) := hb 12 (by decide)
          have h110 : a.eval (.tmp 110) = .bool false := hs 14 (by decide)
          refine flowY rfl rfl h110 ?_
          intro K hK
          unfold Oper.wp execOp
          simp only [h12]
          simp [go_sem]
          exact hK _ _ ⟨Below.refl _ _, rfl, trivial⟩
        · intro a W hE hb hs
          have h111 : a.eval (.tmp 111) = .pointer (some ⟨X12, 0, none⟩) := hs 15 (by decide)
          have h110 : a.eval (.tmp 110) = .bool false := hs 14 (by decide)
          refine flowY rfl rfl h110 ?_
          have c0 : W.cell? ⟨X12, 0, none⟩ = some (.slice (some ⟨db, dq, none⟩) P.length c12) := ((HBX12.out.below (ext_below hE) HBX12.out.lt).cell 0).trans rfl
          intro K hK
          unfold Oper.wp execOp
          simp only [h111]
          simp [go_sem, c0]
          exact hK _ _ ⟨Below.refl _ _, rfl, trivial⟩
        · intro a W hE hb hs
          have h9 : a.eval (.tmp 9) = .int .i64 (k : Int) := hb 9 (by decide)
          have h110 : a.eval (.tmp 110) = .bool false := hs 14 (by decide)
          refine flowY rfl rfl h110 ?_
          exact val_move _ rfl _ h9 ⟨rfl, trivial⟩
        · intro a W hE hb hs
          have h112 : a.eval (.tmp 112) = .slice (some ⟨db, dq, none⟩) P.length c12 := hs 16 (by decide)
          have h113 : a.eval (.tmp 113) = .int .i64 (k : Int) := hs 17 (by decide)
          have h110 : a.eval (.tmp 110) = .bool false := hs 14 (by decide)
          refine flowY rfl rfl h110 ?_
          intro K hK
          unfold Oper.wp execOp
          simp only [h112, h113]
          simp [go_sem, hk0, hkL]
          exact hK _ _ ⟨Below.refl _ _, rfl, trivial⟩
        · intro a W hE hb hs
          have h114 : a.eval (.tmp 114) = .pointer (some ⟨db, dq + k * 7, none⟩) := hs 18 (by decide)
          have h110 : a.eval (.tmp 110) = .bool false := hs 14 (by decide)
          refine flowY rfl rfl h110 ?_
          exact val_load_row 39 _ rfl db (dq + k * 7) h114 (pvC u) d39 ((Hrow2.out W (Hbr2.out.trans ((ext_below hE).mono Hbr2.out.size))).1) hd39 hrow39 (by rw [pvC_len]; kernel_rfl) ⟨rfl, trivial⟩
        · intro a W hE hb hs
          have h115 : a.eval (.tmp 115) = .agg (pvC u).toArray := hs 19 (by decide)
          have h110 : a.eval (.tmp 110) = .bool false := hs 14 (by decide)
          refine flowY rfl rfl h110 ?_
          exact val_call 28 _ _ rfl (by kernel_rfl) [.agg (pvC u).toArray] (by show [a.eval (.tmp 115)] = _; rw [h115]) ((Valid_any u q W (Hrow2.out W (Hbr2.out.trans ((ext_below hE).mono Hbr2.out.size))).2).mono (by rintro e W' ⟨rfl, hb⟩; rw [hqv]; exact ⟨_, rfl, hb, rfl, trivial⟩))
        · intro a W hE hb hs
          have h116 : a.eval (.tmp 116) = .bool true := hs 20 (by decide)
          have h110 : a.eval (.tmp 110) = .bool false := hs 14 (by decide)
          refine flowY rfl rfl h110 ?_
          exact val_not _ _ rfl _ h116 ⟨rfl, trivial⟩
        · intro a W hE hb hs
          have h110 : a.eval (.tmp 110) = .bool false := hs 14 (by decide)
          have h117 : a.eval (.tmp 117) = .bool false := hs 21 (by decide)
          refine flow0 rfl ?_
          exact val_pick _ _ _ rfl false h110 _ (by rw [if_neg (by decide)]; exact h117) ⟨rfl, trivial⟩
      intro f W hb hT hp hd
      have e_ : f 118 = .bool false := hT 22 (by decide)
      simp only [putV, List.foldl_cons, List.foldl_nil, Act.put, List.setIfInBounds_toArray, List.set_cons_succ, List.set_cons_zero, Exit.then]
      rw [e_]
      obtain ⟨v73, rfl⟩ : ∃ q, q = W := ⟨_, rfl⟩
      have hb_ := hb
      clear hb hT hp hd e_ y1 y2 y3 y4 Hys Hb0 Hrow2 Hbr2
      replace Hbr := Lib.hid (Hbr.out.trans (hb_.mono Hbr.out.size))
      replace HB := Lib.hid (HB.out.trans (hb_.mono HB.out.size))
      replace Hn := Lib.hid (Hn.out.below hb_)
      replace HBX8 := Lib.hid (HBX8.out.below hb_ HBX8.out.lt)
      replace Hm := Lib.hid (Hm.out.below hb_)
      replace HBX12 := Lib.hid (HBX12.out.below hb_ HBX12.out.lt)
      clear hb_
      have HP1 := Lib.hid (show forgeP P (k : Int) (L : Int) (UInt8.ofNat Y) = (P, 1) from forge_out hk (by rw [show P.getD k pk0 = x by rw [List.getD_eq_getElem?_getD, Hx.out]; rfl, ← Hbs.out, ← HL.out]; omega))
      have HP2 := Lib.hid (show forgeP P (k : Int) (-1 : Int) (UInt8.ofNat Y) = (P, 1) from forge_out hk (by omega))
      have Hk := Lib.hid (Blk.range HBX12.out)
      go_upto_region 20 with (refine wpList_load_mid rfl 30 (.tmp 12) rfl X12 0 rfl [.slice (some ⟨db, dq, none⟩) P.length c12] d30 Hk.out hd30 hrow30 (by skip; kernel_rfl) ?_)
      clear Hk
      refine (Forge0_any (some ⟨db, dq, none⟩) P.length c12 M (k : Int) (a : Int) Y P 0 v73 Hm.out hc12 (by omega) HMv.out ⟨hY, Hback.out⟩).mono ?_
      rintro e v74 ⟨⟨A15, N15, c15, rfl, hc15, hp_⟩, hb_⟩
      replace Hbr := Lib.hid (Hbr.out.trans (hb_.mono Hbr.out.size))
      replace HB := Lib.hid (HB.out.trans (hb_.mono HB.out.size))
      replace Hn := Lib.hid (Hn.out.below hb_)
      replace HBX8 := Lib.hid (HBX8.out.below hb_ HBX8.out.lt)
      replace Hm := Lib.hid (Hm.out.below hb_)
      replace HBX12 := Lib.hid (HBX12.out.below hb_ HBX12.out.lt)
      clear hb_
      have Hp_ := Lib.hid hp_
      clear hp_
      obtain rfl : P.length = N15 := Hp_.out.len
      have Hbk := Lib.hid Hp_.out
      clear Hp_
      go_upto_region 20 with (first | (refine wpList_alloc0 rfl 30 rfl #[.slice none 0 0] _ i30 hi30 hz30 rfl ?_; simp only [Act.put, List.setIfInBounds_toArray, List.set_cons_succ, List.set_cons_zero]; try simp only [World.size_alloc]) | (refine wpList_store_row rfl 30 (.tmp 15) (.tmp 125) rfl v74.heap.size #[.slice A15 P.length c15] rfl rfl 30 _ (Blk.new v74 _ _) (size30 _ rfl) rfl (net_one _ _ _) ?_; rw [alloc_setRow]))
      obtain ⟨X15, hX15⟩ : ∃ q, q = v74.heap.size := ⟨_, rfl⟩
      obtain ⟨v75, hv75⟩ : ∃ q, q = v74.alloc (.cells #[.slice A15 P.length c15] 30) := ⟨_, rfl⟩
      have hb_ : Below v74.heap.size v74 v75 := by rw [hv75]; exact (Below.refl _ _).alloc (Nat.le_refl _) _
      have HBX15 := Lib.hid (show Blk v75 X15 30 #[.slice A15 P.length c15] by rw [hv75, hX15]; exact Blk.new _ _ _)
      have hlX15 : w.heap.size ≤ X15 := by have := HB.out.size; omega
      rw [← hv75, ← hX15]
      have hoX8X15 : X8 < X15 := by have := HBX8.out.lt; omega
      have hoX12X15 : X12 < X15 := by have := HBX12.out.lt; omega
      replace Hbr := Lib.hid (Hbr.out.trans (hb_.mono Hbr.out.size))
      replace HB := Lib.hid (HB.out.trans (hb_.mono HB.out.size))
      replace Hn := Lib.hid (Hn.out.below hb_)
      replace HBX8 := Lib.hid (HBX8.out.below hb_ HBX8.out.lt)
      replace Hm := Lib.hid (Hm.out.below hb_)
      replace HBX12 := Lib.hid (HBX12.out.below hb_ HBX12.out.lt)
      replace Hbk := Lib.hid (Hbk.out.below hb_)
      clear hb_ hv75 hX15
      have Hk := Lib.hid (Blk.range HBX8.out)
      go_upto_region 21 with (refine wpList_load_mid rfl 30 (.tmp 8) rfl X8 0 rfl [.slice (some ⟨cb, co, none⟩) P.length c8] d30 Hk.out hd30 hrow30 (by skip; kernel_rfl) ?_)
      clear Hk
      refine (Forge0_any (some ⟨cb, co, none⟩) P.length c8 P (k : Int) (L : Int) Y P 1 v75 Hn.out hc8 (by omega) HPv.out ⟨hY, HP1.out⟩).mono ?_
      rintro e v76 ⟨⟨A17, N17, c17, rfl, hc17, hp_⟩, hb_⟩
      replace Hbr := Lib.hid (Hbr.out.trans (hb_.mono Hbr.out.size))
      replace HB := Lib.hid (HB.out.trans (hb_.mono HB.out.size))
      replace Hn := Lib.hid (Hn.out.below hb_)
      replace HBX8 := Lib.hid (HBX8.out.below hb_ HBX8.out.lt)
      replace Hm := Lib.hid (Hm.out.below hb_)
      replace HBX12 := Lib.hid (HBX12.out.below hb_ HBX12.out.lt)
      replace Hbk := Lib.hid (Hbk.out.below hb_)
      replace HBX15 := Lib.hid (HBX15.out.below hb_ HBX15.out.lt)
      clear hb_
      clear hp_
      go_upto_region 21 with (first | (refine wpList_alloc0 rfl 30 rfl #[.slice none 0 0] _ i30 hi30 hz30 rfl ?_; simp only [Act.put, List.setIfInBounds_toArray, List.set_cons_succ, List.set_cons_zero]; try simp only [World.size_alloc]) | (refine wpList_store_row rfl 30 (.tmp 17) (.tmp 134) rfl v76.heap.size #[.slice A17 N17 c17] rfl rfl 30 _ (Blk.new v76 _ _) (size30 _ rfl) rfl (net_one _ _ _) ?_; rw [alloc_setRow]))
      obtain ⟨X17, hX17⟩ : ∃ q, q = v76.heap.size := ⟨_, rfl⟩
      obtain ⟨v77, hv77⟩ : ∃ q, q = v76.alloc (.cells #[.slice A17 N17 c17] 30) := ⟨_, rfl⟩
      have hb_ : Below v76.heap.size v76 v77 := by rw [hv77]; exact (Below.refl _ _).alloc (Nat.le_refl _) _
      have HBX17 := Lib.hid (show Blk v77 X17 30 #[.slice A17 N17 c17] by rw [hv77, hX17]; exact Blk.new _ _ _)
      have hlX17 : w.heap.size ≤ X17 := by have := HB.out.size; omega
      rw [← hv77, ← hX17]
      have hoX8X17 : X8 < X17 := by have := HBX8.out.lt; omega
      have hoX12X17 : X12 < X17 := by have := HBX12.out.lt; omega
      have hoX15X17 : X15 < X17 := by have := HBX15.out.lt; omega
      replace Hbr := Lib.hid (Hbr.out.trans (hb_.mono Hbr.out.size))
      replace HB := Lib.hid (HB.out.trans (hb_.mono HB.out.size))
      replace Hn := Lib.hid (Hn.out.below hb_)
      replace HBX8 := Lib.hid (HBX8.out.below hb_ HBX8.out.lt)
      replace Hm := Lib.hid (Hm.out.below hb_)
      replace HBX12 := Lib.hid (HBX12.out.below hb_ HBX12.out.lt)
      replace Hbk := Lib.hid (Hbk.out.below hb_)
      replace HBX15 := Lib.hid (HBX15.out.below hb_ HBX15.out.lt)
      clear hb_ hv77 hX17
      clear HBX17
      have Hk := Lib.hid (Blk.range HBX8.out)
      go_upto_region 22 with (refine wpList_load_mid rfl 30 (.tmp 8) rfl X8 0 rfl [.slice (some ⟨cb, co, none⟩) P.length c8] d30 Hk.out hd30 hrow30 (by skip; kernel_rfl) ?_)
      clear Hk
      refine (Forge0_any (some ⟨cb, co, none⟩) P.length c8 P (k : Int) (-1 : Int) Y P 1 v77 Hn.out hc8 (by omega) HPv.out ⟨hY, HP2.out⟩).mono ?_
      rintro e v78 ⟨⟨A19, N19, c19, rfl, hc19, hp_⟩, hb_⟩
      replace Hbr := Lib.hid (Hbr.out.trans (hb_.mono Hbr.out.size))
      replace HB := Lib.hid (HB.out.trans (hb_.mono HB.out.size))
      replace Hn := Lib.hid (Hn.out.below hb_)
      replace HBX8 := Lib.hid (HBX8.out.below hb_ HBX8.out.lt)
      replace Hm := Lib.hid (Hm.out.below hb_)
      replace HBX12 := Lib.hid (HBX12.out.below hb_ HBX12.out.lt)
      replace Hbk := Lib.hid (Hbk.out.below hb_)
      replace HBX15 := Lib.hid (HBX15.out.below hb_ HBX15.out.lt)
      clear hb_
      clear hp_
      go_upto_region 22 with (first | (refine wpList_alloc0 rfl 30 rfl #[.slice none 0 0] _ i30 hi30 hz30 rfl ?_; simp only [Act.put, List.setIfInBounds_toArray, List.set_cons_succ, List.set_cons_zero]; try simp only [World.size_alloc]) | (refine wpList_store_row rfl 30 (.tmp 19) (.tmp 141) rfl v78.heap.size #[.slice A19 N19 c19] rfl rfl 30 _ (Blk.new v78 _ _) (size30 _ rfl) rfl (net_one _ _ _) ?_; rw [alloc_setRow]))
      obtain ⟨X19, hX19⟩ : ∃ q, q = v78.heap.size := ⟨_, rfl⟩
      obtain ⟨v79, hv79⟩ : ∃ q, q = v78.alloc (.cells #[.slice A19 N19 c19] 30) := ⟨_, rfl⟩
      have hb_ : Below v78.heap.size v78 v79 := by rw [hv79]; exact (Below.refl _ _).alloc (Nat.le_refl _) _
      have HBX19 := Lib.hid (show Blk v79 X19 30 #[.slice A19 N19 c19] by rw [hv79, hX19]; exact Blk.new _ _ _)
      have hlX19 : w.heap.size ≤ X19 := by have := HB.out.size; omega
      rw [← hv79, ← hX19]
      have hoX8X19 : X8 < X19 := by have := HBX8.out.lt; omega
      have hoX12X19 : X12 < X19 := by have := HBX12.out.lt; omega
      have hoX15X19 : X15 < X19 := by have := HBX15.out.lt; omega
      replace Hbr := Lib.hid (Hbr.out.trans (hb_.mono Hbr.out.size))
      replace HB := Lib.hid (HB.out.trans (hb_.mono HB.out.size))
      replace Hn := Lib.hid (Hn.out.below hb_)
      replace HBX8 := Lib.hid (HBX8.out.below hb_ HBX8.out.lt)
      replace Hm := Lib.hid (Hm.out.below hb_)
      replace HBX12 := Lib.hid (HBX12.out.below hb_ HBX12.out.lt)
      replace Hbk := Lib.hid (Hbk.out.below hb_)
      replace HBX15 := Lib.hid (HBX15.out.below hb_ HBX15.out.lt)
      clear hb_ hv79 hX19
      clear HBX19
      obtain ⟨bZ, hbZ⟩ : ∃ q, q = v79.heap.size := ⟨_, rfl⟩
      obtain ⟨v80, hv80⟩ : ∃ q, q = v79.alloc (.cells #[] 39) := ⟨_, rfl⟩
      have HbZ := Lib.hid (show Below v79.heap.size v79 v80 by rw [hv80]; exact (Below.refl _ _).alloc (Nat.le_refl _) _)
      have HoZ := Lib.hid (show OwnP v80 bZ (.slice (some ⟨bZ, 0, none⟩) 0 0) 0 [] by rw [hv80, hbZ]; exact OwnP.empty v79 (Nat.le_refl _))
      have hsZ : bZ ≤ v80.heap.size := by have := HbZ.out.size; omega
      have HzZ := Lib.hid hbZ
      have HWZ := Lib.hid hv80
      clear hv80 hbZ
      have c12Z : (v79.alloc (.cells #[] 39)).cell? ⟨X12, 0, none⟩ = some (.slice (some ⟨db, dq, none⟩) P.length c12) := by rw [← HWZ.out]; exact ((HBX12.out.below HbZ.out HBX12.out.lt).cell 0).trans rfl
      obtain ⟨SS, hSS⟩ : ∃ SS : Nat → Prop, SS = fun b => b < v79.heap.size ∧ b ≠ X12 := ⟨_, rfl⟩
      have HSS := Lib.hid hSS
      clear hSS
      skip
      go_upto_region 23 with (first | (at_builtin; rw [← HWZ.out, ← HzZ.out]; refine wpList_ownp rfl (.tmp 143) (.tmp 145) rfl bZ hsZ _ 0 [] rfl HoZ.out (some ⟨db, dq, none⟩) P.length c12 M rfl (Hm.out.below HbZ.out) (by omega) ?_; intro v_Z waZ ho_Z hb_Z hk_Z; rw [Nat.zero_add, List.nil_append] at ho_Z; obtain ⟨AZ, cZ, rfl, hcZ, hp_Z⟩ := ho_Z.pks; have HOZ := Lib.hid ho_Z; have HpZ := Lib.hid hp_Z; have HBZ := Lib.hid (show Below v79.heap.size v79 waZ from HbZ.out.trans (HzZ.out ▸ hb_Z)); clear ho_Z hp_Z hb_Z hk_Z; clear c12Z; have hBz := HBX12.out.below HBZ.out HBX12.out.lt; have HBz := Lib.hid hBz; have czz : waZ.cell? ⟨X12, 0, none⟩ = some (.slice (some ⟨db, dq, none⟩) P.length c12) := (hBz.cell 0).trans rfl; have fzz := hBz.frozen 0; clear hBz))
      obtain ⟨wS, hwS⟩ : ∃ q_, q_ = waZ.setCell ⟨X12, 0, none⟩ (.slice AZ P.length cZ) := ⟨_, rfl⟩
      rw [← hwS]
      have hkS : KeptIn SS v79 wS := by
        rw [hwS]
        exact (KeptIn.of_below HBZ.out (fun b hb => by rw [HSS.out] at hb; exact hb.1)).setAt (p := ⟨X12, 0, none⟩) (fun h => by rw [HSS.out] at h; exact h.2 rfl) _
      have hX12 : Blk wS X12 30 #[.slice AZ P.length cZ] := by rw [hwS]; exact heap_setCell_same waZ X12 0 _ 30 _ HBz.out
      have hoS : OwnP wS bZ (.slice AZ P.length cZ) P.length M := by rw [hwS]; exact HOZ.out.setNetF HBz.out
      have hBS : Below w.heap.size w wS := by rw [hwS]; exact Below.setCell (HB.out.trans (HBZ.out.mono HB.out.size)) (show w.heap.size ≤ X12 by omega) _
      have HkS := Lib.hid hkS
      have HXS := Lib.hid hX12
      have HoS := Lib.hid hoS
      have HBS := Lib.hid hBS
      have h812 : X8 ≠ X12 := by omega
      have h1512 : X15 ≠ X12 := by omega
      clear hkS hX12 hoS hBS hwS czz fzz HBz HOZ HpZ HBZ HbZ HoZ HWZ hsZ
      have H8S := Lib.hid (show Blk wS X8 30 #[.slice (some ⟨cb, co, none⟩) P.length c8] from HBX8.out.keptIn HkS.out (by rw [HSS.out]; exact ⟨HBX8.out.lt, h812⟩))
      have HnS := Lib.hid (Hn.out.keptF HBX12.out HkS.out HSS.out)
      obtain ⟨cb', co', v', hAe, hrow⟩ := HnS.out.atF Hx.out
      obtain ⟨rfl, rfl⟩ : cb = cb' ∧ co = co' := by injection hAe with h; injection h with h1 h2 _; exact ⟨h1, h2⟩
      have HrS := Lib.hid hrow
      clear hrow hAe
      obtain ⟨g, o, hAe⟩ := HoS.out.ptrF (by omega)
      subst hAe
      refine wp_region_flow_tail 9 [148, 149, 150, 151, 152, 153, 154, 155, 156] [(Spec.is (.pointer (some ⟨X12, 0, none⟩)), false), (Spec.is (.slice (some ⟨g, o, none⟩) P.length cZ), false), (Spec.is (.int .i64 (k : Int)), false), (Spec.is (.pointer (some ⟨X8, 0, none⟩)), false), (Spec.is (.slice (some ⟨cb, co, none⟩) P.length c8), false), (Spec.is (.int .i64 (k : Int)), false), (Spec.is (.pointer (some ⟨cb, co + k * 7, none⟩)), false), (Spec.is (.agg (pvC v').toArray), false), (Spec.is (.pointer (some ⟨g, o + k * 7, none⟩)), false)] 180 (by kernel_rfl) (List.take_append_drop _ _) rfl (by kernel_rfl) (by kernel_rfl) (by kernel_rfl) (by decide) (by kernel_rfl) (by kernel_rfl) (fun _ _ d _ _ h => by cases d <;> exact h) rfl (by decide) rfl (by decide) (by kernel_rfl) ?_ ?_
      · refine ⟨?_, ?_, ?_, ?_, ?_, ?_, ?_, ?_, ?_, trivial⟩
        · intro a W hE hb hs
          have h12 : a.eval (.tmp 12) = .pointer (some ⟨X12, 0, none⟩) := hb 12 (by decide)
          refine flow0 rfl ?_
          intro K hK
          unfold Oper.wp execOp
          simp only [h12]
          simp [go_sem]
          exact hK _ _ ⟨Below.refl _ _, rfl, trivial⟩
        · intro a W hE hb hs
          have h148 : a.eval (.tmp 148) = .pointer (some ⟨X12, 0, none⟩) := hs 0 (by decide)
          refine flow0 rfl ?_
          have c0 : W.cell? ⟨X12, 0, none⟩ = some (.slice (some ⟨g, o, none⟩) P.length cZ) := ((HXS.out.below (ext_below hE) HXS.out.lt).cell 0).trans rfl
          intro K hK
          unfold Oper.wp execOp
          simp only [h148]
          simp [go_sem, c0]
          exact hK _ _ ⟨Below.refl _ _, rfl, trivial⟩
        · intro a W hE hb hs
          have h9 : a.eval (.tmp 9) = .int .i64 (k : Int) := hb 9 (by decide)
          refine flow0 rfl ?_
          exact val_move _ rfl _ h9 ⟨rfl, trivial⟩
        · intro a W hE hb hs
          have h8 : a.eval (.tmp 8) = .pointer (some ⟨X8, 0, none⟩) := hb 8 (by decide)
          refine flow0 rfl ?_
          intro K hK
          unfold Oper.wp execOp
          simp only [h8]
          simp [go_sem]
          exact hK _ _ ⟨Below.refl _ _, rfl, trivial⟩
        · intro a W hE hb hs
          have h151 : a.eval (.tmp 151) = .pointer (some ⟨X8, 0, none⟩) := hs 3 (by decide)
          refine flow0 rfl ?_
          have c0 : W.cell? ⟨X8, 0, none⟩ = some (.slice (some ⟨cb, co, none⟩) P.length c8) := ((H8S.out.below (ext_below hE) H8S.out.lt).cell 0).trans rfl
          intro K hK
          unfold Oper.wp execOp
          simp only [h151]
          simp [go_sem, c0]
          exact hK _ _ ⟨Below.refl _ _, rfl, trivial⟩
        · intro a W hE hb hs
          have h9 : a.eval (.tmp 9) = .int .i64 (k : Int) := hb 9 (by decide)
          refine flow0 rfl ?_
          exact val_move _ rfl _ h9 ⟨rfl, trivial⟩
        · intro a W hE hb hs
          have h152 : a.eval (.tmp 152) = .slice (some ⟨cb, co, none⟩) P.length c8 := hs 4 (by decide)
          have h153 : a.eval (.tmp 153) = .int .i64 (k : Int) := hs 5 (by decide)
          refine flow0 rfl ?_
          intro K hK
          unfold Oper.wp execOp
          simp only [h152, h153]
          simp [go_sem, hk0, hkL]
          exact hK _ _ ⟨Below.refl _ _, rfl, trivial⟩
        · intro a W hE hb hs
          have h154 : a.eval (.tmp 154) = .pointer (some ⟨cb, co + k * 7, none⟩) := hs 6 (by decide)
          refine flow0 rfl ?_
          exact val_load_row 39 _ rfl cb (co + k * 7) h154 (pvC v') d39 ((HrS.out W (ext_below hE)).1) hd39 hrow39 (by rw [pvC_len]; kernel_rfl) ⟨rfl, trivial⟩
        · intro a W hE hb hs
          have h149 : a.eval (.tmp 149) = .slice (some ⟨g, o, none⟩) P.length cZ := hs 1 (by decide)
          have h150 : a.eval (.tmp 150) = .int .i64 (k : Int) := hs 2 (by decide)
          refine flow0 rfl ?_
          intro K hK
          unfold Oper.wp execOp
          simp only [h149, h150]
          simp [go_sem, hk0, hkL]
          exact hK _ _ ⟨Below.refl _ _, rfl, trivial⟩
      intro f W hb hT hp hd
      have e155 : f 155 = .agg (pvC v').toArray := hT 7 (by decide)
      have e156 : f 156 = .pointer (some ⟨g, o + k * 7, none⟩) := hT 8 (by decide)
      simp only [putV, List.foldl_cons, List.foldl_nil, Act.put, List.setIfInBounds_toArray, List.set_cons_succ, List.set_cons_zero]
      rw [e155, e156]
      obtain ⟨wt, hwt⟩ : ∃ q_, q_ = W.setCells g (o + k * 7) (pvC v') := ⟨_, rfl⟩
      obtain ⟨hth, hpt, hgb⟩ := (HoS.out.below hb (Nat.le_refl _)).setPkF hk (HrS.out W hb).2
      rw [← hwt, HMx.out] at hpt
      have hkt : KeptIn SS v79 wt := by
        rw [hwt]
        refine (HkS.out.trans (KeptIn.of_below hb (fun b h => by rw [HSS.out] at h; have := HkS.out.size; omega))).trans ((kept_setCells7 W g (o + k * 7) v').mono fun b h => ?_)
        rw [HSS.out] at h
        have := HzZ.out; omega
      have h8t : Blk wt X8 30 #[.slice (some ⟨cb, co, none⟩) P.length c8] := HBX8.out.keptIn hkt (by rw [HSS.out]; exact ⟨HBX8.out.lt, h812⟩)
      have h15t : Blk wt X15 30 #[.slice A15 P.length c15] := HBX15.out.keptIn hkt (by rw [HSS.out]; exact ⟨HBX15.out.lt, h1512⟩)
      have h12t : Blk wt X12 30 #[.slice (some ⟨g, o, none⟩) P.length cZ] := by
        rw [hwt]
        exact (HXS.out.below hb HXS.out.lt).keptIn (kept_setCells7 W g (o + k * 7) v') (by have := HBX12.out.lt; have := HzZ.out; omega)
      have hBt : Below w.heap.size w wt := by
        rw [hwt]
        exact (HBS.out.trans (hb.mono HBS.out.size)).trans (KeptIn.below (kept_setCells7 W g (o + k * 7) v') fun b hb => by have := HB.out.size; have := HzZ.out; omega)
      have Hnt := Lib.hid (Hn.out.keptF HBX12.out hkt HSS.out)
      have Hbt2 := Lib.hid (Hbk.out.keptF HBX12.out hkt HSS.out)
      have Hmt := Lib.hid hpt
      have H8t := Lib.hid h8t
      have H15t := Lib.hid h15t
      have H12t := Lib.hid h12t
      have HBt := Lib.hid hBt
      have Hth := Lib.hid hth
      have HWT := Lib.hid hwt
      clear h8t h15t h12t hBt hth hwt hpt hkt hb hT hp hd e155 e156 hgb
      go_upto_region 24 with (refine wpList_store_mid rfl 39 (.tmp 156) (.tmp 155) rfl g (o + k * 7) (pvC v').toArray rfl rfl Hth.out (size39 _ rfl) (pv_row_one _) ?_; rw [show (pvC v').toArray.toList = pvC v' from rfl, ← HWT.out])
      clear HWT Hth HkS HXS HoS HBS H8S HnS HrS Hbr HBX8 HBX12 HBX15 Hn Hbk Hm HB
      have Hk := Lib.hid (Blk.range H15t.out)
      have Hk2 := Lib.hid (Blk.range H8t.out)
      go_wp2_with (first | (refine wpList_load_mid_g (by first | rfl | simp [Region.wanted, yielded]) 30 (.tmp 15) rfl X15 0 rfl [.slice A15 P.length c15] d30 Hk.out hd30 hrow30 (by skip; kernel_rfl) ?_) | (refine wpList_load_mid_g (by first | rfl | simp [Region.wanted, yielded]) 30 (.tmp 8) rfl X8 0 rfl [.slice (some ⟨cb, co, none⟩) P.length c8] d30 Hk2.out hd30 hrow30 (by skip; kernel_rfl) ?_))
      clear Hk Hk2
      refine (SameNet_any A15 P.length c15 P (some ⟨cb, co, none⟩) P.length c8 P wt Hbt2.out Hnt.out HPok.out HPok.out (by omega) (by omega)).mono ?_
      rintro e v201 ⟨rfl, hb_⟩
      replace HBt := Lib.hid (HBt.out.trans (hb_.mono HBt.out.size))
      replace H8t := Lib.hid (H8t.out.below hb_ H8t.out.lt)
      replace H15t := Lib.hid (H15t.out.below hb_ H15t.out.lt)
      replace H12t := Lib.hid (H12t.out.below hb_ H12t.out.lt)
      replace Hnt := Lib.hid (Hnt.out.below hb_)
      replace Hbt2 := Lib.hid (Hbt2.out.below hb_)
      replace Hmt := Lib.hid (Hmt.out.below hb_)
      clear hb_
      rw [decide_eq_true rfl]
      have Hk := Lib.hid (Blk.range H12t.out)
      have Hk2 := Lib.hid (Blk.range H8t.out)
      go_wp2_with (first | (refine wpList_load_mid_g (by first | rfl | simp [Region.wanted, yielded]) 30 (.tmp 12) rfl X12 0 rfl [.slice (some ⟨g, o, none⟩) P.length cZ] d30 Hk.out hd30 hrow30 (by skip; kernel_rfl) ?_) | (refine wpList_load_mid_g (by first | rfl | simp [Region.wanted, yielded]) 30 (.tmp 8) rfl X8 0 rfl [.slice (some ⟨cb, co, none⟩) P.length c8] d30 Hk2.out hd30 hrow30 (by skip; kernel_rfl) ?_))
      clear Hk Hk2
      refine (SameNet_any (some ⟨g, o, none⟩) P.length cZ P (some ⟨cb, co, none⟩) P.length c8 P v201 Hmt.out Hnt.out HPok.out HPok.out (by omega) (by omega)).mono ?_
      rintro e v202 ⟨rfl, hb_⟩
      replace HBt := Lib.hid (HBt.out.trans (hb_.mono HBt.out.size))
      replace H8t := Lib.hid (H8t.out.below hb_ H8t.out.lt)
      replace H15t := Lib.hid (H15t.out.below hb_ H15t.out.lt)
      replace H12t := Lib.hid (H12t.out.below hb_ H12t.out.lt)
      replace Hnt := Lib.hid (Hnt.out.below hb_)
      replace Hbt2 := Lib.hid (Hbt2.out.below hb_)
      replace Hmt := Lib.hid (Hmt.out.below hb_)
      clear hb_
      rw [decide_eq_true rfl]
      go_wp2_with fail
      go_ret
      exact ⟨rfl, HBt.out⟩
end Go.Proofs.Yteofgkdpknaapaa
