/- NetTakes: the walk. -/
import Derived.Test.YteofgkdpknaapaaN33
import Derived.Deep.CutRange
namespace Go.Proofs.Yteofgkdpknaapaa
open Go.RowKit Go.Sort

theorem elemR : Try.prog.elem 22 = 55 := by kernel_rfl
theorem undR : Try.prog.underlying 22 = some (.slice (Try.prog.elem 22)) := by rw [elemR]; exact Try.underlying22
theorem cellsR : Try.prog.cellsOf 55 = 5 := by kernel_rfl
theorem run_raw_h (A : Option Addr) (n c i : Nat) (hi : i ≤ c) (w : World) : (Instr.slice 22 (.slice A n c) none (some (.int .i64 (i : Int))) none).run Try.prog w = .ok (.slice A i c) w := by
  obtain ⟨iE, hi', _⟩ := info_parts info55
  rw [run_slice_h (P := Try.prog) w 22 A n c undR .i64 (i : Int) (by omega) (by omega), elemR, run_sizeOf w hi', cellsR]
  simp only [Result.andThen_ok, sliced, Int.toNat_natCast]
  cases A with
  | none => simp
  | some a => cases a; simp [Addr.add] <;> rfl
theorem RawsAt.take {w : World} {A : Option Addr} {n i : Nat} {xs : List Rw} (h : RawsAt w A n xs) (hi : i ≤ n) : RawsAt w A i (xs.take i) := by
  obtain ⟨vs, h1, h2, h3⟩ := h
  refine ⟨vs.take i, ?_, by rw [List.map_take, h2], fun v hv => h3 v (List.mem_of_mem_take hv)⟩
  have hl := h1.lenf wvC_len (by omega)
  obtain ⟨a1, a2, a3⟩ := h1
  have e : (vs.take i).flatMap wvC = (vs.flatMap wvC).take (i * 5) := by
    have hfl : ∀ xs : List Wv, (xs.flatMap wvC).length = xs.length * 5 := fun xs => flat_length wvC_len xs
    conv => rhs; rw [← List.take_append_drop i vs, List.flatMap_append]
    rw [List.take_left' (by rw [hfl, List.length_take, Nat.min_eq_left (by omega)])]
  rw [e]
  refine ⟨by rw [List.length_take, a1]; omega, by omega, fun h => ?_⟩
  obtain ⟨b, off, e1, e2⟩ := a3 (by omega)
  exact ⟨b, off, e1, fun j u hu => e2 j u (by rw [List.getElem?_take] at hu; split at hu; exact hu; cases hu)⟩
theorem PksAt.setNet {w : World} {A : Option Addr} {n g : Nat} {ps : List Pk} {cs : Array Value} (h : PksAt w A n ps) (hB : Blk w g 30 cs) (cs' : Array Value) : PksAt (w.setRow g cs') A n ps := by
  have k1 : KeptIn (fun q => q ≠ g) w (w.setRow g cs') := (KeptIn.refl (fun q => q ≠ g) w).setRow (g := g) (fun h => h rfl) _
  have hs : ∀ t, t ≠ 30 → ∀ b cur, Blk w b t cur → b ≠ g := fun t h b cur hb => hb.ne hB h
  obtain ⟨vs, ht, hp⟩ := h
  exact ⟨vs, ht.keptIn k1 (hs _ (by decide)), hp.keptIn k1 (hs _ (by decide)) (hs _ (by decide)) (hs _ (by decide))⟩
theorem PksAt.at_ {w : World} {A : Option Addr} {n k : Nat} {ps : List Pk} {x : Pk} (h : PksAt w A n ps) (hx : ps[k]? = some x) : ∃ cb co v, A = some ⟨cb, co, none⟩ ∧ ∀ W, Below w.heap.size w W → W.rangeAt cb (co + k * 7) (pvC v) ∧ PvOk W v x := by
  have hl := h.len
  obtain ⟨vs, ht, hp⟩ := h
  have hk : k < n := by rw [← hl]; exact (List.getElem?_eq_some_iff.1 hx).1
  have hvl := ht.1.lenf pvC_len (by omega)
  obtain ⟨v, hv⟩ : ∃ q, vs[k]? = some q := ⟨_, List.getElem?_eq_getElem (by omega)⟩
  obtain ⟨cb, co, e, -⟩ := ht.1.2.2 (by omega)
  subst e
  exact ⟨cb, co, v, rfl, fun W hW => ⟨rd_row pvC_len (by omega) (ht.below hW).1 hv, (hp.2 k v x hv hx).below hW⟩⟩
set_option maxRecDepth 100000 in
set_option maxHeartbeats 1000000 in
theorem NetTakes_any (A : Option Addr) (n c : Nat) (xs : List Rw) (B : Option Addr) (m d : Nat) (bs : List UInt8) (w : World) (hx : RawsAt w A n xs) (hnc : n ≤ c) (hbs : Rd w 1 B m (bs.map byteV)) :
    Calls Try.prog 6 #[.slice A n c, .slice B m d] w fun e w' => e = .returned (.bool true) ∧ Below w.heap.size w w' := by
  obtain ⟨i39, hi39, hz39, hs39, hy39⟩ := info_parts info39
  obtain ⟨i30, hi30, hz30, _, _⟩ := info_parts info30
  obtain ⟨i0, hi0, hz0, hz1, hz2⟩ := info_parts info5
  obtain ⟨d39, hd39, hrow39⟩ := und39
  obtain ⟨d30, hd30, hrow30⟩ := und30
  have HB := Lib.hid (Below.refl w.heap.size w)
  have Hx := Lib.hid hx
  have Hord := Lib.hid hbs
  clear hx hbs
  go_enter Try.func6, Try.ntmps6
  go_upto_region 2 with fail
  refine (sanity_any w).mono ?_
  rintro e v1 ⟨rfl, hb_⟩
  replace HB := Lib.hid (HB.out.trans (hb_.mono HB.out.size))
  replace Hx := Lib.hid (Hx.out.below hb_)
  clear hb_
  obtain ⟨K, hK⟩ : ∃ q, q = min n 20 := ⟨_, rfl⟩
  have HK := Lib.hid hK
  have hsl := run_raw_h A n c K (by omega)
  clear hK
  go_upto_region 3 with (refine wpList_min rfl (.tmp 20) (.const (.int .i64 20)) _ rfl _ _ (K : Int) rfl rfl (by have := HK.out; omega) ?_)
  clear hsl
  refine (MadeNet0_any A K c (xs.take K) v1 (Hx.out.take (by have := HK.out; omega))).mono ?_
  rintro e v2 ⟨⟨A6, N6, c6, rfl, hc6, hN6, hp_⟩, hb_⟩
  replace HB := Lib.hid (HB.out.trans (hb_.mono HB.out.size))
  replace Hx := Lib.hid (Hx.out.below hb_)
  clear hb_
  obtain ⟨P, hP⟩ : ∃ q, q = ((xs.take K).take 64).map madeP := ⟨_, rfl⟩
  rw [← hP] at hp_
  have HPok := Lib.hid (show ∀ x ∈ P, okP x from fun x hx => (made_ok (xs.take K) 64 x (hP ▸ hx)).1)
  have Hn := Lib.hid hp_
  obtain rfl : P.length = N6 := hp_.len
  clear hp_ hP
  clear Hx
  go_upto_region 3 with (first | (refine wpList_alloc0 rfl 30 rfl #[.slice none 0 0] _ i30 hi30 hz30 rfl ?_; simp only [Act.put, List.setIfInBounds_toArray, List.set_cons_succ, List.set_cons_zero]; try simp only [World.size_alloc]) | (refine wpList_store_row rfl 30 (.tmp 6) (.tmp 23) rfl v2.heap.size #[.slice A6 P.length c6] rfl rfl 30 _ (Blk.new v2 _ _) (size30 _ rfl) rfl (net_one _ _ _) ?_; rw [alloc_setRow]))
  obtain ⟨X6, hX6⟩ : ∃ q, q = v2.heap.size := ⟨_, rfl⟩
  obtain ⟨v3, hv3⟩ : ∃ q, q = v2.alloc (.cells #[.slice A6 P.length c6] 30) := ⟨_, rfl⟩
  have hb_ : Below v2.heap.size v2 v3 := by rw [hv3]; exact (Below.refl _ _).alloc (Nat.le_refl _) _
  have HBX6 := Lib.hid (show Blk v3 X6 30 #[.slice A6 P.length c6] by rw [hv3, hX6]; exact Blk.new _ _ _)
  have hlX6 : w.heap.size ≤ X6 := by have := HB.out.size; omega
  rw [← hv3, ← hX6]
  replace HB := Lib.hid (HB.out.trans (hb_.mono HB.out.size))
  replace Hn := Lib.hid (Hn.out.below hb_)
  clear hb_ hv3 hX6
  obtain ⟨bL, hbL⟩ : ∃ q, q = v3.heap.size := ⟨_, rfl⟩
  obtain ⟨v4, hv4⟩ : ∃ q, q = v3.alloc (.cells #[] 39) := ⟨_, rfl⟩
  have HbL := Lib.hid (show Below v3.heap.size v3 v4 by rw [hv4]; exact (Below.refl _ _).alloc (Nat.le_refl _) _)
  have HoL := Lib.hid (show OwnP v4 bL (.slice (some ⟨bL, 0, none⟩) 0 0) 0 [] by rw [hv4, hbL]; exact OwnP.empty v3 (Nat.le_refl _))
  have hsL : bL ≤ v4.heap.size := by have := HbL.out.size; omega
  have HzL := Lib.hid hbL
  have HWL := Lib.hid hv4
  clear hv4 hbL
  have c6L : (v3.alloc (.cells #[] 39)).cell? ⟨X6, 0, none⟩ = some (.slice A6 P.length c6) := by rw [← HWL.out]; exact ((HBX6.out.below HbL.out HBX6.out.lt).cell 0).trans rfl
  go_upto_region 5 with (at_builtin; rw [← HWL.out, ← HzL.out]; refine wpList_ownp rfl (.tmp 24) (.tmp 26) rfl bL hsL _ 0 [] rfl HoL.out A6 P.length c6 P rfl (Hn.out.below HbL.out) (by omega) ?_; intro v_L waL ho_L hb_L hk_L; rw [Nat.zero_add, List.nil_append] at ho_L; obtain ⟨AL, cL, rfl, hcL, hp_L⟩ := ho_L.pks; have HOL := Lib.hid ho_L; have HpL := Lib.hid hp_L; have HBL := Lib.hid (show Below v3.heap.size v3 waL from HbL.out.trans (HzL.out ▸ hb_L)); clear ho_L hp_L hb_L hk_L; clear c6L)
  replace HB := Lib.hid (HB.out.trans (HBL.out.mono HB.out.size))
  replace Hn := Lib.hid (Hn.out.below HBL.out)
  replace HBX6 := Lib.hid (HBX6.out.below HBL.out HBX6.out.lt)
  clear HOL HBL HbL HoL HzL HWL hsL
  go_loopw [7, 8, 10, 11] (fun v7 v8 v10 v11 wr => ∃ (j : Nat) (L : List Pk) (A7 : Option Addr) (c7 : Nat) (A6 : Option Addr) (c6 : Nat), v7 = .slice A7 L.length c7 ∧ v8 = .int .i64 (j : Int) ∧ j + L.length ≤ 64 ∧ L.length ≤ c7 ∧ PksAt wr A7 L.length L ∧ Blk wr X6 30 #[.slice A6 L.length c6] ∧ L.length ≤ c6 ∧ PksAt wr A6 L.length L ∧ (∀ x ∈ L, okP x) ∧ Below w.heap.size w wr) (fun _ v8 _ _ _ => 65 - (intOf v8).toNat)
  case atStart => exact ⟨0, P, _, _, _, _, rfl, rfl, by omega, hcL, HpL.out, HBX6.out, hc6, Hn.out, HPok.out, HB.out⟩
  case round =>
    clear HBX6 HpL Hn HPok HB hcL hc6 hN6
    obtain ⟨j, L, A7, c7, A6, c6, rfl, rfl, hjL, hc7, hk7, hB6, hc6, hk6, hok, hBr⟩ := hrel
    have HB := Lib.hid hBr
    have HBX6 := Lib.hid hB6
    have Hn := Lib.hid hk6
    have Hl := Lib.hid hk7
    have Hok := Lib.hid hok
    clear hBr hB6 hk6 hk7 hok
    have hol : ∀ W, Below wr.heap.size wr W → True := fun _ _ => trivial
    clear hol
    by_cases hL : 0 < L.length
    · have dL : decide ((L.length : Int) > 0) = true := decide_eq_true (by omega)
      have dL' : (0 : Int) < (L.length : Int) := by omega
      have hjw : IntKind.i64.wrap ((j : Int) + 1) = ((j + 1 : Nat) : Int) := by rw [IntKind.wrap_i64]; push_cast; omega
      go_upto_if 36 with fail
      go_cut [9, 36] from 37 to 45 (fun v9 _ wx => (∃ k : Nat, v9 = .int .i64 (k : Int) ∧ k < L.length) ∧ wx = wr)
      case first =>
        by_cases hjm : j < m
        · have djm : decide (j < m) = true := decide_eq_true hjm
          have djm' : (j : Int) < (m : Int) := by omega
          have hj0 : (0 : Int) ≤ (j : Int) := by omega
          obtain ⟨b, hb⟩ : ∃ q, bs[j]? = some q := ⟨_, List.getElem?_eq_getElem (by have := Hord.out.len1; omega)⟩
          obtain ⟨ob, oo, hBe, hoc⟩ := (Hord.out.below HB.out).2.2 (by omega)
          have cj : wr.cell? ⟨ob, oo + j, none⟩ = some (.int .u8 (b.toNat : Int)) := hoc j _ (by rw [List.getElem?_map, hb]; rfl)
          obtain ⟨k, hk'⟩ : ∃ q, q = b.toNat % L.length := ⟨_, rfl⟩
          have hk : k < L.length := by rw [hk']; exact Nat.mod_lt _ hL
          have hbl : IntKind.i64.wrap (b.toNat : Int) = (b.toNat : Int) := by rw [IntKind.wrap_i64]; have := b.toNat_lt; omega
          have hLn : ¬ (L.length : Int) = 0 := by omega
          have Hkr := Lib.hid (show (b.toNat : Int) % (L.length : Int) = (k : Int) by rw [hk']; simp)
          subst hBe
          clear hb hoc hk'
          rw [djm]
          go_wp2_with fail
          go_meet
          exact ⟨⟨k, by rw [Hkr.out], hk⟩, rfl⟩
        · have djm : decide (j < m) = false := decide_eq_false hjm
          rw [djm]
          go_wp2_with fail
          go_meet
          exact ⟨⟨0, rfl, hL⟩, rfl⟩
      case' rest => skip
      obtain ⟨⟨k, rfl, hk⟩, hwc⟩ := hcut
      subst hwc
      have hk0 : (0 : Int) ≤ (k : Int) := by omega
      have hkL : (k : Int) < (L.length : Int) := by omega
      obtain ⟨x, hx⟩ : ∃ q, L[k]? = some q := ⟨_, List.getElem?_eq_getElem hk⟩
      obtain ⟨E, hE⟩ : ∃ q, q = L.eraseIdx k := ⟨_, rfl⟩
      have Hx := Lib.hid hx
      have htp : takeP L (k : Int) = (x, E, 0) := by
        unfold takeP
        rw [hE, if_pos ⟨by omega, by omega⟩, Int.toNat_natCast, List.getD_eq_getElem?_getD, hx]
        rfl
      have hxo := Hok.out x (List.mem_of_getElem? hx)
      obtain ⟨cb, co, v, hAe, hrow⟩ := Hl.out.at_ hx
      subst hAe
      have Hrow := Lib.hid hrow
      have HoE := Lib.hid (show ∀ y ∈ E, okP y from fun y hy => Hok.out y (List.mem_of_mem_eraseIdx (hE ▸ hy)))
      have HEl := Lib.hid (show E.length = L.length - 1 by rw [hE, List.length_eraseIdx_of_lt hk])
      have HEq := Lib.hid hE
      clear hx hrow hE
      have Hk := Lib.hid (Blk.range HBX6.out)
      go_upto_region 11 with (refine wpList_load_mid rfl 30 (.tmp 6) rfl X6 0 rfl [.slice A6 L.length c6] d30 Hk.out hd30 hrow30 (by skip; kernel_rfl) ?_)
      clear Hk
      refine (Take0_any A6 L.length c6 L (k : Int) x E 0 wc Hn.out hc6 (by omega) htp).mono ?_
      rintro e v61 ⟨⟨u, A11, N11, c11, rfl, hc11, hp_, hq_⟩, hb_⟩
      replace HB := Lib.hid (HB.out.trans (hb_.mono HB.out.size))
      replace HBX6 := Lib.hid (HBX6.out.below hb_ HBX6.out.lt)
      replace Hn := Lib.hid (Hn.out.below hb_)
      replace Hl := Lib.hid (Hl.out.below hb_)
      have Hu := Lib.hid hp_
      have Ht := Lib.hid hq_
      obtain rfl : E.length = N11 := hq_.len
      have Hbr := Lib.hid hb_
      clear hp_ hq_ htp
      clear hb_
      obtain ⟨v62a, hv62a⟩ : ∃ v, v = ((v61.alloc (.cells (pvC pv0).toArray 39)).alloc (.cells #[.slice none 0 0] 30)) := ⟨_, rfl⟩
      obtain ⟨X10, hX10⟩ : ∃ v, v = v61.heap.size := ⟨_, rfl⟩
      have hNX10 : Blk (v61.alloc (.cells (pvC pv0).toArray 39)) X10 39 (pvC pv0).toArray := by
        have := Blk.new v61 39 (pvC pv0).toArray
        skip
        rw [hX10]; exact this
      replace hNX10 := hNX10.alloc (.cells #[.slice none 0 0] 30)
      rw [← hv62a] at hNX10
      obtain ⟨X11, hX11⟩ : ∃ v, v = v61.heap.size + 1 := ⟨_, rfl⟩
      have hNX11 : Blk ((v61.alloc (.cells (pvC pv0).toArray 39)).alloc (.cells #[.slice none 0 0] 30)) X11 30 #[.slice none 0 0] := by
        have := Blk.new (v61.alloc (.cells (pvC pv0).toArray 39)) 30 #[.slice none 0 0]
        rw [World.size_alloc] at this
        rw [hX11]; exact this
      rw [← hv62a] at hNX11
      have hbA : Below v61.heap.size v61 v62a := by
        rw [hv62a]; exact ((Below.refl _ _).alloc (by simp) _).alloc (by simp) _
      have HNX10 := Lib.hid hNX10
      have hkX10 := (KeptIn.refl (fun b => b ≠ X10) v62a).setRow (g := X10) (fun h => h rfl) (pvC u).toArray
      replace hNX11 := hNX11.keptIn hkX10 (show X11 ≠ X10 by omega)
      replace hNX10 : Blk (v62a.setRow X10 (pvC u).toArray) X10 39 (pvC u).toArray := setRow_heap _ _ _ _ _ _ HNX10.out
      have HNX11 := Lib.hid hNX11
      have hkX11 := (KeptIn.refl (fun b => b ≠ X11) (v62a.setRow X10 (pvC u).toArray)).setRow (g := X11) (fun h => h rfl) #[.slice A11 E.length c11]
      replace hNX10 := hNX10.keptIn hkX11 (show X10 ≠ X11 by omega)
      replace hNX11 : Blk ((v62a.setRow X10 (pvC u).toArray).setRow X11 #[.slice A11 E.length c11]) X11 30 #[.slice A11 E.length c11] := setRow_heap _ _ _ _ _ _ HNX11.out
      obtain ⟨v62, hv62⟩ : ∃ v, v = ((v62a.setRow X10 (pvC u).toArray).setRow X11 #[.slice A11 E.length c11]) := ⟨_, rfl⟩
      have hbB : Below v61.heap.size v61 v62 := by rw [hv62]; exact (Below.setRow (Below.setRow hbA (show v61.heap.size ≤ X10 by omega) _) (show v61.heap.size ≤ X11 by omega) _)
      rw [← hv62] at hNX10
      have HBX10 := Lib.hid hNX10
      rw [← hv62] at hNX11
      have HBX11 := Lib.hid hNX11
      have Hv62a := Lib.hid hv62a
      have Hv62 := Lib.hid hv62
      have HEX10 := Lib.hid hX10
      have HEX11 := Lib.hid hX11
      clear hNX10 hkX10 hNX11 hkX11 hv62a hv62 hbA
      have hlX10 : w.heap.size ≤ X10 := by have := HB.out.size; omega
      have hoX6X10 : X6 < X10 := by have := HBX6.out.lt; omega
      have hlX11 : w.heap.size ≤ X11 := by have := HB.out.size; omega
      have hoX6X11 : X6 < X11 := by have := HBX6.out.lt; omega
      clear hX10 hX11
      go_upto_region 11 with (first | (refine wpList_alloc0 rfl 39 rfl (pvC pv0).toArray _ i39 hi39 hz39 rfl ?_; simp only [Act.put, List.setIfInBounds_toArray, List.set_cons_succ, List.set_cons_zero]; try simp only [World.size_alloc]) | (refine wpList_alloc0 rfl 30 rfl #[.slice none 0 0] _ i30 hi30 hz30 rfl ?_; simp only [Act.put, List.setIfInBounds_toArray, List.set_cons_succ, List.set_cons_zero]; try simp only [World.size_alloc]) | (rw [← Hv62a.out, ← HEX11.out, ← HEX10.out]; refine wpList_store_row rfl 39 (.tmp 10) (.tmp 49) rfl X10 (pvC u).toArray rfl rfl 39 _ HNX10.out (size39 _ rfl) rfl (pv_row_one _) ?_) | (refine wpList_store_row rfl 30 (.tmp 11) (.tmp 50) rfl X11 #[.slice A11 E.length c11] rfl rfl 30 _ HNX11.out (size30 _ rfl) rfl (net_one _ _ _) ?_; rw [← Hv62.out]))
      replace Hbr := Lib.hid (Hbr.out.trans (hbB.mono Hbr.out.size))
      replace HB := Lib.hid (HB.out.trans (hbB.mono HB.out.size))
      replace HBX6 := Lib.hid (HBX6.out.below hbB HBX6.out.lt)
      replace Hn := Lib.hid (Hn.out.below hbB)
      replace Hl := Lib.hid (Hl.out.below hbB)
      replace Hu := Lib.hid (Hu.out.below hbB)
      replace Ht := Lib.hid (Ht.out.below hbB)
      clear hbB
      clear HNX10 HEX10 HNX11 HEX11 Hv62a Hv62
      go_upto_region 11 with fail
      refine wp_region_flowF [52, 53, 54, 55, 56, 57, 58, 59, 60, 61, 62] [(Spec.is (.int .i64 0), false), (Spec.is (.bool false), false), (Spec.is (.bool false), false), (Spec.is (.agg (pvC u).toArray), false), (Spec.is (.slice (some ⟨cb, co, none⟩) L.length c7), false), (Spec.is (.int .i64 (k : Int)), false), (Spec.is (.pointer (some ⟨cb, co + k * 7, none⟩)), false), (Spec.is (.agg (pvC v).toArray), false), (Spec.is (.bool true), false), (Spec.is (.bool false), false), (Spec.is (.bool false), false)] 91 (by kernel_rfl) rfl (by decide) rfl (by decide) (by kernel_rfl) ?_ ?_
      · refine ⟨?_, ?_, ?_, ?_, ?_, ?_, ?_, ?_, ?_, ?_, ?_, trivial⟩
        · intro a W hE hb hs
          have h12 : a.eval (.tmp 12) = .int .i64 0 := hb 12 (by decide)
          refine flow0 rfl ?_
          exact val_move _ rfl _ h12 ⟨rfl, trivial⟩
        · intro a W hE hb hs
          have h52 : a.eval (.tmp 52) = .int .i64 0 := hs 0 (by decide)
          refine flow0 rfl ?_
          intro K hK
          unfold Oper.wp execOp
          simp only [h52, BigFrame.eval_const]
          simp [go_sem]
          exact hK _ _ ⟨Below.refl _ _, rfl, trivial⟩
        · intro a W hE hb hs
          have h53 : a.eval (.tmp 53) = .bool false := hs 1 (by decide)
          refine flow0 rfl ?_
          exact val_move _ rfl _ h53 ⟨rfl, trivial⟩
        · intro a W hE hb hs
          have h10 : a.eval (.tmp 10) = .pointer (some ⟨X10, 0, none⟩) := hb 10 (by decide)
          have h54 : a.eval (.tmp 54) = .bool false := hs 2 (by decide)
          refine flowY rfl rfl h54 ?_
          exact val_load_row 39 _ rfl X10 0 h10 (pvC u) d39 (Blk.range (HBX10.out.below (ext_below hE) HBX10.out.lt)) hd39 hrow39 (by rw [pvC_len]; kernel_rfl) ⟨rfl, trivial⟩
        · intro a W hE hb hs
          have h7 : a.eval (.tmp 7) = .slice (some ⟨cb, co, none⟩) L.length c7 := hb 7 (by decide)
          have h54 : a.eval (.tmp 54) = .bool false := hs 2 (by decide)
          refine flowY rfl rfl h54 ?_
          exact val_move _ rfl _ h7 ⟨rfl, trivial⟩
        · intro a W hE hb hs
          have h9 : a.eval (.tmp 9) = .int .i64 (k : Int) := hb 9 (by decide)
          have h54 : a.eval (.tmp 54) = .bool false := hs 2 (by decide)
          refine flowY rfl rfl h54 ?_
          exact val_move _ rfl _ h9 ⟨rfl, trivial⟩
        · intro a W hE hb hs
          have h56 : a.eval (.tmp 56) = .slice (some ⟨cb, co, none⟩) L.length c7 := hs 4 (by decide)
          have h57 : a.eval (.tmp 57) = .int .i64 (k : Int) := hs 5 (by decide)
          have h54 : a.eval (.tmp 54) = .bool false := hs 2 (by decide)
          refine flowY rfl rfl h54 ?_
          intro K hK
          unfold Oper.wp execOp
          simp only [h56, h57]
          simp [go_sem, hk0, hkL]
          exact hK _ _ ⟨Below.refl _ _, rfl, trivial⟩
        · intro a W hE hb hs
          have h58 : a.eval (.tmp 58) = .pointer (some ⟨cb, co + k * 7, none⟩) := hs 6 (by decide)
          have h54 : a.eval (.tmp 54) = .bool false := hs 2 (by decide)
          refine flowY rfl rfl h54 ?_
          exact val_load_row 39 _ rfl cb (co + k * 7) h58 (pvC v) d39 ((Hrow.out W (Hbr.out.trans ((ext_below hE).mono Hbr.out.size))).1) hd39 hrow39 (by rw [pvC_len]; kernel_rfl) ⟨rfl, trivial⟩
        · intro a W hE hb hs
          have h55 : a.eval (.tmp 55) = .agg (pvC u).toArray := hs 3 (by decide)
          have h59 : a.eval (.tmp 59) = .agg (pvC v).toArray := hs 7 (by decide)
          have h54 : a.eval (.tmp 54) = .bool false := hs 2 (by decide)
          refine flowY rfl rfl h54 ?_
          exact val_call 18 _ _ rfl (by kernel_rfl) [.agg (pvC u).toArray, .agg (pvC v).toArray] (by show [a.eval (.tmp 55), a.eval (.tmp 59)] = _; rw [h55, h59]) ((Same_any u v x x W (Hu.out.below (ext_below hE)) (Hrow.out W (Hbr.out.trans ((ext_below hE).mono Hbr.out.size))).2 hxo hxo).mono (by rintro e W' ⟨rfl, hb⟩; rw [decide_eq_true rfl]; exact ⟨_, rfl, hb, rfl, trivial⟩))
        · intro a W hE hb hs
          have h60 : a.eval (.tmp 60) = .bool true := hs 8 (by decide)
          have h54 : a.eval (.tmp 54) = .bool false := hs 2 (by decide)
          refine flowY rfl rfl h54 ?_
          exact val_not _ _ rfl _ h60 ⟨rfl, trivial⟩
        · intro a W hE hb hs
          have h54 : a.eval (.tmp 54) = .bool false := hs 2 (by decide)
          have h61 : a.eval (.tmp 61) = .bool false := hs 9 (by decide)
          refine flow0 rfl ?_
          exact val_pick _ _ _ rfl false h54 _ (by rw [if_neg (by decide)]; exact h61) ⟨rfl, trivial⟩
      intro f W hb hT hp hd
      have e62 : f 62 = .bool false := hT 10 (by decide)
      simp only [putV, List.foldl_cons, List.foldl_nil, Act.put, List.setIfInBounds_toArray, List.set_cons_succ, List.set_cons_zero, Exit.then]
      rw [e62]
      obtain ⟨v63, rfl⟩ : ∃ q, q = W := ⟨_, rfl⟩
      have hb_ := hb
      clear hb hT hp hd e62
      replace Hbr := Lib.hid (Hbr.out.trans (hb_.mono Hbr.out.size))
      replace HB := Lib.hid (HB.out.trans (hb_.mono HB.out.size))
      replace HBX6 := Lib.hid (HBX6.out.below hb_ HBX6.out.lt)
      replace Hn := Lib.hid (Hn.out.below hb_)
      replace Hl := Lib.hid (Hl.out.below hb_)
      replace Hu := Lib.hid (Hu.out.below hb_)
      replace Ht := Lib.hid (Ht.out.below hb_)
      replace HBX10 := Lib.hid (HBX10.out.below hb_ HBX10.out.lt)
      replace HBX11 := Lib.hid (HBX11.out.below hb_ HBX11.out.lt)
      clear hb_
      obtain ⟨bR, hbR⟩ : ∃ q, q = v63.heap.size := ⟨_, rfl⟩
      obtain ⟨v64, hv64⟩ : ∃ q, q = v63.alloc (.cells #[] 39) := ⟨_, rfl⟩
      have HbR := Lib.hid (show Below v63.heap.size v63 v64 by rw [hv64]; exact (Below.refl _ _).alloc (Nat.le_refl _) _)
      have HoR := Lib.hid (show OwnP v64 bR (.slice (some ⟨bR, 0, none⟩) 0 0) 0 [] by rw [hv64, hbR]; exact OwnP.empty v63 (Nat.le_refl _))
      have hsR : bR ≤ v64.heap.size := by have := HbR.out.size; omega
      have HzR := Lib.hid hbR
      have HWR := Lib.hid hv64
      clear hv64 hbR
      have hsl1 := run_pk_h (some ⟨cb, co, none⟩) L.length c7 k (by omega)
      have Hlk := Lib.hid (Hl.out.take (i := k) (by omega))
      go_upto_region 14 with (at_builtin; rw [← HWR.out, ← HzR.out]; refine wpList_ownp rfl (.tmp 63) (.tmp 66) rfl bR hsR _ 0 [] rfl HoR.out (some ⟨cb, co, none⟩) k c7 (L.take k) rfl (Hlk.out.below HbR.out) (by omega) ?_; intro v_R waR ho_R hb_R hk_R; rw [Nat.zero_add, List.nil_append] at ho_R; obtain ⟨AR, cR, rfl, hcR, hp_R⟩ := ho_R.pks; have HOR := Lib.hid ho_R; have HpR := Lib.hid hp_R; have HBR := Lib.hid (show Below v63.heap.size v63 waR from HbR.out.trans (HzR.out ▸ hb_R)); clear ho_R hp_R hb_R hk_R; clear hsl1)
      have hsR2 : bR ≤ waR.heap.size := by have := HBR.out.size; have := HzR.out; omega
      have hsl2 := run_pk_l (some ⟨cb, co, none⟩) L.length c7 (k + 1) (by omega)
      obtain ⟨A', hA', -⟩ := dropK_if cb co c7 (k + 1)
      rw [hA'] at hsl2
      have Hld := Lib.hid (show PksAt waR A' (L.length - (k + 1)) (L.drop (k + 1)) from hA' ▸ (Hl.out.below HBR.out).drop (i := k + 1) (by omega) hc7)
      clear hA'
      obtain ⟨M2, hM2⟩ : ∃ q, q = L.length - (k + 1) := ⟨_, rfl⟩
      obtain ⟨C2, hC2⟩ : ∃ q, q = c7 - (k + 1) := ⟨_, rfl⟩
      rw [← hM2, ← hC2] at hsl2
      rw [← hM2] at Hld
      have HM2 := Lib.hid hM2
      clear hM2 hC2
      go_upto_region 15 with (first | (refine wpList_run rfl (.slice A' M2 C2) (run_slice_op (.tmp 69) (some (.tmp 71)) none none rfl _ _ (hsl2 _)) ?_) | (refine wpList_run rfl (.int .i64 ((k + 1 : Nat) : Int)) (run_succ_op (.tmp 70) rfl k (by omega) rfl _) ?_) | (at_builtin; refine wpList_ownp rfl (.tmp 68) (.tmp 72) rfl bR hsR2 _ k (L.take k) rfl HOR.out A' M2 C2 (L.drop (k + 1)) rfl Hld.out (by have := HM2.out; omega) ?_; intro v_2 wb ho_2 hb_2 hk_2; obtain ⟨A13, c13, rfl, hc13, hp_2⟩ := ho_2.pks; have Ha := Lib.hid hp_2; have Hb_ := Lib.hid (HBR.out.trans (HzR.out ▸ hb_2)); clear ho_2 hp_2 hb_2 hk_2))
      replace Hbr := Lib.hid (Hbr.out.trans (Hb_.out.mono Hbr.out.size))
      replace HB := Lib.hid (HB.out.trans (Hb_.out.mono HB.out.size))
      replace HBX6 := Lib.hid (HBX6.out.below Hb_.out HBX6.out.lt)
      replace Hn := Lib.hid (Hn.out.below Hb_.out)
      replace Hl := Lib.hid (Hl.out.below Hb_.out)
      replace Hu := Lib.hid (Hu.out.below Hb_.out)
      replace Ht := Lib.hid (Ht.out.below Hb_.out)
      replace HBX10 := Lib.hid (HBX10.out.below Hb_.out HBX10.out.lt)
      replace HBX11 := Lib.hid (HBX11.out.below Hb_.out HBX11.out.lt)
      clear Hb_ HOR HBR HbR HoR HzR HWR hsR hsR2 Hld Hlk HpR hsl2
      obtain ⟨M, hM⟩ : ∃ q, q = k + M2 := ⟨_, rfl⟩
      rw [← hM] at hc13 Ha ⊢
      obtain rfl : E.length = M := by have := HEl.out; have := HM2.out; omega
      replace Ha := Lib.hid (show PksAt wb A13 E.length E by have h := Ha.out; rw [← List.eraseIdx_eq_take_drop_succ, ← HEq.out] at h; exact h)
      clear hM
      have Hk := Lib.hid (Blk.range HBX11.out)
      go_upto_region 17 with (first | (refine wpList_load_mid rfl 30 (.tmp 11) rfl X11 0 rfl [.slice A11 E.length c11] d30 Hk.out hd30 hrow30 (by skip; kernel_rfl) ?_) | (refine wpList_buildN rfl 30 _ rfl [(0, .slice A13 E.length c13)] rfl _ (built30 A13 E.length c13) ?_))
      clear Hk
      refine (SameNet_any A11 E.length c11 E A13 E.length c13 E wb Ht.out Ha.out HoE.out HoE.out (by have := HEl.out; omega) (by have := HEl.out; omega)).mono ?_
      rintro e v65 ⟨rfl, hb_⟩
      replace Hbr := Lib.hid (Hbr.out.trans (hb_.mono Hbr.out.size))
      replace HB := Lib.hid (HB.out.trans (hb_.mono HB.out.size))
      replace HBX6 := Lib.hid (HBX6.out.below hb_ HBX6.out.lt)
      replace Hn := Lib.hid (Hn.out.below hb_)
      replace Hl := Lib.hid (Hl.out.below hb_)
      replace Hu := Lib.hid (Hu.out.below hb_)
      replace Ht := Lib.hid (Ht.out.below hb_)
      replace HBX10 := Lib.hid (HBX10.out.below hb_ HBX10.out.lt)
      replace HBX11 := Lib.hid (HBX11.out.below hb_ HBX11.out.lt)
      replace Ha := Lib.hid (Ha.out.below hb_)
      clear hb_
      rw [decide_eq_true rfl]
      have Hk := Lib.hid (Blk.range HBX11.out)
      have HNX := Lib.hid (show Blk _ _ _ _ from HBX6.out)
      obtain ⟨v66, hv66⟩ : ∃ q, q = v65.setRow X6 #[.slice A11 E.length c11] := ⟨_, rfl⟩
      have Hv66 := Lib.hid hv66
      have HE1 := Lib.hid (show Blk v66 X6 30 #[.slice A11 E.length c11] by rw [hv66]; exact setRow_heap _ _ _ _ _ _ HBX6.out)
      have HE2 := Lib.hid (show PksAt v66 A11 E.length E by rw [hv66]; exact Ht.out.setNet HBX6.out _)
      have HE3 := Lib.hid (show PksAt v66 A13 E.length E by rw [hv66]; exact Ha.out.setNet HBX6.out _)
      have HE4 := Lib.hid (show Below w.heap.size w v66 by rw [hv66]; exact Below.setRow HB.out (by omega) _)
      clear hv66
      go_wp2_with (first | (refine wpList_load_mid rfl 30 (.tmp 11) rfl X11 0 rfl [.slice A11 E.length c11] d30 Hk.out hd30 hrow30 (by skip; kernel_rfl) ?_) | (refine wpList_store_row rfl 30 (.tmp 6) (.tmp 79) rfl X6 #[.slice A11 E.length c11] rfl rfl 30 _ HNX.out (size30 _ rfl) rfl (net_one _ _ _) ?_; rw [← Hv66.out]))
      exact ⟨⟨j + 1, E, A13, c13, A11, c11, rfl, by push_cast; rfl, by have := HEl.out; omega, hc13, HE3.out, HE1.out, hc11, HE2.out, HoE.out, HE4.out⟩, by simp only [intOf]; omega⟩
    · have dL : decide ((L.length : Int) > 0) = false := decide_eq_false (by omega)
      have dL' : ¬ (0 : Int) < (L.length : Int) := by omega
      have hLe : L = [] := List.eq_nil_of_length_eq_zero (by omega)
      have HLe := Lib.hid hLe
      clear hLe Hl
      have Hk := Lib.hid (Blk.range HBX6.out)
      go_upto_region 19 with (refine wpList_load_mid rfl 30 (.tmp 6) rfl X6 0 rfl [.slice A6 L.length c6] d30 Hk.out hd30 hrow30 (by skip; kernel_rfl) ?_)
      clear Hk
      refine (Take0_any A6 L.length c6 L 0 pk0 L 310 wr Hn.out hc6 (by omega) (by rw [HLe.out]; decide +kernel)).mono ?_
      rintro e v91 ⟨⟨u, A15, N15, c15, rfl, hc15, hp_, hq_⟩, hb_⟩
      replace HB := Lib.hid (HB.out.trans (hb_.mono HB.out.size))
      replace HBX6 := Lib.hid (HBX6.out.below hb_ HBX6.out.lt)
      replace Hn := Lib.hid (Hn.out.below hb_)
      clear hb_
      clear hp_ hq_
      obtain ⟨v92a, hv92a⟩ : ∃ v, v = ((v91.alloc (.cells (pvC pv0).toArray 39)).alloc (.cells #[.slice none 0 0] 30)) := ⟨_, rfl⟩
      obtain ⟨X14, hX14⟩ : ∃ v, v = v91.heap.size := ⟨_, rfl⟩
      have hNX14 : Blk (v91.alloc (.cells (pvC pv0).toArray 39)) X14 39 (pvC pv0).toArray := by
        have := Blk.new v91 39 (pvC pv0).toArray
        skip
        rw [hX14]; exact this
      replace hNX14 := hNX14.alloc (.cells #[.slice none 0 0] 30)
      rw [← hv92a] at hNX14
      obtain ⟨X15, hX15⟩ : ∃ v, v = v91.heap.size + 1 := ⟨_, rfl⟩
      have hNX15 : Blk ((v91.alloc (.cells (pvC pv0).toArray 39)).alloc (.cells #[.slice none 0 0] 30)) X15 30 #[.slice none 0 0] := by
        have := Blk.new (v91.alloc (.cells (pvC pv0).toArray 39)) 30 #[.slice none 0 0]
        rw [World.size_alloc] at this
        rw [hX15]; exact this
      rw [← hv92a] at hNX15
      have hbA : Below v91.heap.size v91 v92a := by
        rw [hv92a]; exact ((Below.refl _ _).alloc (by simp) _).alloc (by simp) _
      have HNX14 := Lib.hid hNX14
      have hkX14 := (KeptIn.refl (fun b => b ≠ X14) v92a).setRow (g := X14) (fun h => h rfl) (pvC u).toArray
      replace hNX15 := hNX15.keptIn hkX14 (show X15 ≠ X14 by omega)
      replace hNX14 : Blk (v92a.setRow X14 (pvC u).toArray) X14 39 (pvC u).toArray := setRow_heap _ _ _ _ _ _ HNX14.out
      have HNX15 := Lib.hid hNX15
      have hkX15 := (KeptIn.refl (fun b => b ≠ X15) (v92a.setRow X14 (pvC u).toArray)).setRow (g := X15) (fun h => h rfl) #[.slice A15 N15 c15]
      replace hNX14 := hNX14.keptIn hkX15 (show X14 ≠ X15 by omega)
      replace hNX15 : Blk ((v92a.setRow X14 (pvC u).toArray).setRow X15 #[.slice A15 N15 c15]) X15 30 #[.slice A15 N15 c15] := setRow_heap _ _ _ _ _ _ HNX15.out
      obtain ⟨v92, hv92⟩ : ∃ v, v = ((v92a.setRow X14 (pvC u).toArray).setRow X15 #[.slice A15 N15 c15]) := ⟨_, rfl⟩
      have hbB : Below v91.heap.size v91 v92 := by rw [hv92]; exact (Below.setRow (Below.setRow hbA (show v91.heap.size ≤ X14 by omega) _) (show v91.heap.size ≤ X15 by omega) _)
      rw [← hv92] at hNX14
      have HBX14 := Lib.hid hNX14
      rw [← hv92] at hNX15
      have HBX15 := Lib.hid hNX15
      have Hv92a := Lib.hid hv92a
      have Hv92 := Lib.hid hv92
      have HEX14 := Lib.hid hX14
      have HEX15 := Lib.hid hX15
      clear hNX14 hkX14 hNX15 hkX15 hv92a hv92 hbA
      have hlX14 : w.heap.size ≤ X14 := by have := HB.out.size; omega
      have hoX6X14 : X6 < X14 := by have := HBX6.out.lt; omega
      have hlX15 : w.heap.size ≤ X15 := by have := HB.out.size; omega
      have hoX6X15 : X6 < X15 := by have := HBX6.out.lt; omega
      clear hX14 hX15
      go_upto_region 19 with (first | (refine wpList_alloc0 rfl 39 rfl (pvC pv0).toArray _ i39 hi39 hz39 rfl ?_; simp only [Act.put, List.setIfInBounds_toArray, List.set_cons_succ, List.set_cons_zero]; try simp only [World.size_alloc]) | (refine wpList_alloc0 rfl 30 rfl #[.slice none 0 0] _ i30 hi30 hz30 rfl ?_; simp only [Act.put, List.setIfInBounds_toArray, List.set_cons_succ, List.set_cons_zero]; try simp only [World.size_alloc]) | (rw [← Hv92a.out, ← HEX15.out, ← HEX14.out]; refine wpList_store_row rfl 39 (.tmp 14) (.tmp 83) rfl X14 (pvC u).toArray rfl rfl 39 _ HNX14.out (size39 _ rfl) rfl (pv_row_one _) ?_) | (refine wpList_store_row rfl 30 (.tmp 15) (.tmp 84) rfl X15 #[.slice A15 N15 c15] rfl rfl 30 _ HNX15.out (size30 _ rfl) rfl (net_one _ _ _) ?_; rw [← Hv92.out]))
      replace HB := Lib.hid (HB.out.trans (hbB.mono HB.out.size))
      replace HBX6 := Lib.hid (HBX6.out.below hbB HBX6.out.lt)
      replace Hn := Lib.hid (Hn.out.below hbB)
      clear hbB
      clear HNX14 HEX14 HNX15 HEX15 Hv92a Hv92
      go_wp2_with fail
      go_ret
      exact ⟨rfl, HB.out⟩
end Go.Proofs.Yteofgkdpknaapaa
