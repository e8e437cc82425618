/- SuffixEnds: the walk. -/
import Derived.Test.YtcelkneeedebiaaX28
import Derived.Test.YtcelkneeedebiaaX29
namespace Go.Proofs.Ytcelkneeedebiaa
open Go Go.RowKit Go.Sort Go.Shelf

/-- At least 1. -/
def one1 (x : UInt8) : UInt8 := if x = 0 then 1 else x
theorem one1_nat (x : UInt8) : max (x.toNat : Int) 1 = ((one1 x).toNat : Int) := by
  unfold one1
  by_cases h : x = 0
  · rw [if_pos h, h]; rfl
  · rw [if_neg h]
    have : x.toNat ≠ 0 := fun e => h (UInt8.toNat_inj.1 (by rw [e]; rfl))
    omega
theorem one1_pos (x : UInt8) : (0 : UInt8) < one1 x := by
  rw [UInt8.lt_iff_toNat_lt]
  have := one1_nat x
  show 0 < (one1 x).toNat
  omega
set_option maxRecDepth 100000 in
set_option maxHeartbeats 4000000 in
theorem SuffixEnds_any (A : Option Addr) (n c : Nat) (xs : List UInt8) (y : UInt8) (w : World) (hx : Rd w 1 A n (xs.map byteV)) (_hc : n ≤ c) :
    Calls Try.prog 8 #[.slice A n c, .int .u8 (y.toNat : Int)] w fun e w' => e = .returned (.bool true) ∧ Below w.heap.size w w' := by
  obtain ⟨i5, hi5, hz5, hs5, hy5⟩ := info_parts info5v
  have hxl := hx.len1
  have hnl := hx.le
  have Hxl := Lib.hid hxl
  have Hx := Lib.hid hx
  have HB := Lib.hid (Below.refl w.heap.size w)
  clear hx hxl
  go_enter Try.func8, Try.ntmps8
  go_wp2_with fail
  refine (sanity_any w).mono ?_
  rintro e_ v1 ⟨rfl, hb_⟩
  replace Hx := Lib.hid (Hx.out.below hb_)
  replace HB := Lib.hid (HB.out.trans (hb_.mono HB.out.size))
  clear hb_
  have hbs := nil22
  go_upto_region 3 with fail
  obtain ⟨w2, hw2⟩ : ∃ v, v = v1.alloc (.cells #[] 5) := ⟨_, rfl⟩
  have hb2 : Below v1.heap.size v1 w2 := by rw [hw2]; exact (Below.refl _ _).alloc (Nat.le_refl _) _
  rw [← hw2]
  clear hw2 hbs
  replace Hx := Lib.hid (Hx.out.below hb2)
  replace HB := Lib.hid (HB.out.trans (hb2.mono HB.out.size))
  clear hb2
  go_wp2_with fail
  go_loopw [6, 7] (fun v6 v7 wr => ∃ i : Nat, v7 = .int .i64 (i : Int) ∧ i ≤ n ∧ i ≤ 200 ∧ App wr w2.heap.size 5 v6 i (((xs.map one1).take i).map byteV) ∧ Below w2.heap.size w2 wr) (fun _ v7 _ => 200 - (intOf v7).toNat)
  case atStart => exact ⟨0, rfl, by omega, by omega, .inl ⟨rfl, rfl, _, rfl⟩, Below.refl _ _⟩
  case round =>
    obtain ⟨i, rfl, hi, hi2, happ, hBr⟩ := hrel
    have Happ := Lib.hid happ
    have HBr := Lib.hid hBr
    have hszr := hBr.size
    clear happ hBr
    by_cases hlt : i < n ∧ i < 200
    · obtain ⟨hl1, hl2⟩ := hlt
      have d0 : decide ((i : Int) < (n : Int)) = true := decide_eq_true (by omega)
      have d1 : decide ((i : Int) < 200) = true := decide_eq_true (by omega)
      have d1n : decide (i < 200) = true := decide_eq_true hl2
      obtain ⟨b, off, x, rfl, hxi, cx⟩ := (Hx.out.below HBr.out).at_ hl1
      have cx' : wr.cell? ⟨b, off + i, none⟩ = some (.int .u8 (x.toNat : Int)) := cx
      have i1 : (i : Int) < (n : Int) := by omega
      have i0 : (0 : Int) ≤ (i : Int) := by omega
      have hmx := one1_nat x
      have Htk := Lib.hid (show (xs.map one1).take (i + 1) = (xs.map one1).take i ++ [one1 x] by rw [List.take_add_one, List.getElem?_map, hxi]; rfl)
      clear hxi cx
      go_wp2_with (at_builtin; go_loud (refine wpList_app rfl (.tmp 27) (.tmp 33) 22 rfl 5 i5 (.int .u8 0) 1 Try.underlying22 hi5 hz5 hs5 hy5 rfl w2.heap.size (by simp; omega) _ (i) _ rfl (Happ.out.litE _) (some ⟨wr.heap.size, 0, none⟩) 1 1 [byteV (one1 x)] rfl (by first | exact lit_rdE _ _ _ | (show Rd (wr.alloc (.cells #[.int .u8 (max (x.toNat : Int) 1)] 5)) 1 _ 1 [.int .u8 ((one1 x).toNat : Int)]; rw [hmx]; exact lit_rdE _ _ _)) (by simp [byteV, Value.oneCell']) (by unfold maxLen; omega) (by omega) ?_; intro v1 w6 happ6 hb6))
      have HE := Lib.hid (show App w6 w2.heap.size 5 v1 (i + 1) (((xs.map one1).take (i + 1)).map byteV) ∧ Below w2.heap.size w2 w6 from ⟨by rw [Htk.out, List.map_append]; exact happ6, (HBr.out.alloc (Nat.le_trans (Nat.le_refl _) hszr) _).trans hb6⟩)
      clear happ6 hb6
      go_wp2_with fail
      exact ⟨⟨i + 1, by go_num, by omega, by omega, HE.out⟩, by simp [intOf]; omega⟩
    · have hcase : (decide ((i : Int) < (n : Int)) = false ∧ decide (i < n) = false) ∨ (decide ((i : Int) < (n : Int)) = true ∧ decide ((i : Int) < 200) = false ∧ decide (i < 200) = false) := by
        by_cases q : i < n
        · exact .inr ⟨decide_eq_true (by omega), decide_eq_false (by omega), decide_eq_false (by omega)⟩
        · exact .inl ⟨decide_eq_false (by omega), decide_eq_false (by omega)⟩
      obtain ⟨X, hX⟩ : ∃ X, X = (xs.map one1).take i := ⟨_, rfl⟩
      rw [← hX] at Happ
      obtain ⟨A6, c6, rfl, hc6, hR6⟩ := Happ.out.rd
      have hXl : X.length = i := hR6.len1
      have HXl := Lib.hid hXl
      have HX := Lib.hid hR6
      have Hpos := Lib.hid (show ∀ c ∈ X, (0 : UInt8) < c from fun c hc => by
        rw [hX] at hc
        obtain ⟨a, _, rfl⟩ := List.mem_map.1 (List.mem_of_mem_take hc)
        exact one1_pos a)
      obtain ⟨n1, hn1⟩ : ∃ n1, n1 = i := ⟨_, rfl⟩
      have Hcase := Lib.hid hcase
      replace HB := Lib.hid (HB.out.trans (HBr.out.mono HB.out.size))
      replace Hx := Lib.hid (Hx.out.below HBr.out)
      clear hcase hX hXl hR6 Happ HBr hszr hlt
      subst hn1
      obtain ⟨w3, hw3⟩ : ∃ v, v = wr := ⟨_, rfl⟩
      subst hw3
      have hle : n1 ≤ 200 := hi2
      rcases Hcase.out with ⟨qa, qb⟩ | ⟨qa, qb, qc⟩
      all_goals (go_upto_region 7 with fail)
      all_goals
        go_wp2_with fail
        refine (Order_any A6 n1 c6 X w3 HX.out (by omega)).mono ?_
        rintro e_ v1 ⟨⟨O, oc, old, rfl, hoc, ho, hord⟩, hb_⟩
        replace Hx := Lib.hid (Hx.out.below hb_)
        replace HB := Lib.hid (HB.out.trans (hb_.mono HB.out.size))
        replace HX := Lib.hid (HX.out.below hb_)
        clear hb_
        have HO := Lib.hid ho
        have Hold := Lib.hid hord
        clear ho hord
        have Hap0 := Lib.hid (show App (v1.alloc (.cells #[] 5)) v1.heap.size 5 (.slice (some ⟨v1.heap.size, 0, none⟩) 0 0) 0 [] from .inl ⟨rfl, rfl, _, rfl⟩)
        have HBa := Lib.hid (show Below v1.heap.size v1 (v1.alloc (.cells #[] 5)) from (Below.refl _ _).alloc (Nat.le_refl _) _)
        have Hp7 := Lib.hid (HX.out.below HBa.out)
        have hbs := nil22
        go_upto_region 9 with (at_builtin; go_loud (refine wpList_app rfl (.tmp 37) (.tmp 38) 22 rfl 5 i5 (.int .u8 0) 1 Try.underlying22 hi5 hz5 hs5 hy5 rfl v1.heap.size (by simp) _ (0) _ rfl Hap0.out A6 n1 c6 (X.map byteV) rfl Hp7.out (fun u hu => by obtain ⟨a, _, rfl⟩ := List.mem_map.1 hu; rfl) (by unfold maxLen; omega) (by omega) ?_; intro v9 w9 happ9 hb9))
        have Hap9 := Lib.hid happ9
        have HB79 := Lib.hid (show Below v1.heap.size v1 w9 from HBa.out.trans hb9)
        have hsz9 := HB79.out.size
        clear happ9 hb9 Hp7 HBa Hap0 hbs
        have Hal := Lib.hid (Hap9.out.litE (.cells #[.int .u8 0] 5))
        have HBl := Lib.hid (show Below v1.heap.size v1 (w9.alloc (.cells #[.int .u8 0] 5)) from HB79.out.alloc hsz9 _)
        go_wp2_with (at_builtin; go_loud (refine wpList_app rfl (.tmp 40) (.tmp 41) 22 rfl 5 i5 (.int .u8 0) 1 Try.underlying22 hi5 hz5 hs5 hy5 rfl v1.heap.size (by simp; omega) v9 (0 + n1) _ rfl Hal.out (some ⟨w9.heap.size, 0, none⟩) 1 1 [byteV 0] rfl (lit_rdE w9 (byteV 0) 5) (by simp [byteV, Value.oneCell']) (by unfold maxLen; omega) (by omega) ?_; intro v10 w10 happ10 hb10))
        obtain ⟨A10, c10, e10, hc10, hR10⟩ := happ10.rd
        obtain ⟨n2, hn2⟩ : ∃ n2, n2 = 0 + n1 + 1 := ⟨_, rfl⟩
        rw [← hn2] at e10 hc10 hR10
        have hn2e : n2 = n1 + 1 := by omega
        clear hn2
        subst hn2e
        subst e10
        have hb_ : Below v1.heap.size v1 w10 := HBl.out.trans hb10
        have HR10 := Lib.hid (show Rd w10 1 A10 (n1 + 1) ((X ++ [0]).map byteV) from by simpa [byteV] using hR10)
        clear hR10 happ10 hb10 HBl Hal HB79 hsz9 Hap9
        replace Hx := Lib.hid (Hx.out.below hb_)
        replace HB := Lib.hid (HB.out.trans (hb_.mono HB.out.size))
        replace HX := Lib.hid (HX.out.below hb_)
        replace HO := Lib.hid (HO.out.below hb_)
        clear hb_
        go_wp2_with fail
        refine (Order_any A10 (n1 + 1) c10 (X ++ [0]) w10 HR10.out (by omega)).mono ?_
        rintro e_ v2 ⟨⟨O2, oc2, l2, rfl, hoc2, ho2, hord2⟩, hb_⟩
        replace Hx := Lib.hid (Hx.out.below hb_)
        replace HB := Lib.hid (HB.out.trans (hb_.mono HB.out.size))
        replace HX := Lib.hid (HX.out.below hb_)
        replace HO := Lib.hid (HO.out.below hb_)
        clear hb_
        have hl2 : l2 = n1 :: old := by rw [← HXl.out]; exact hord2.unique (ord_end Hold.out Hpos.out)
        subst hl2
        have HO2 := Lib.hid ho2
        clear ho2 hord2 HR10
        have Hal := Lib.hid (show App (v2.alloc (.cells #[byteV y] 5)) v2.heap.size 5 (.slice (some ⟨v2.heap.size, 0, none⟩) 1 1) 1 [byteV y] from .inr (World.ownsRow_lit v2 #[byteV y] 1 (Nat.le_refl _) (by decide) rfl))
        have HBa := Lib.hid (show Below v2.heap.size v2 (v2.alloc (.cells #[byteV y] 5)) from (Below.refl _ _).alloc (Nat.le_refl _) _)
        have Hp7 := Lib.hid (HX.out.below HBa.out)
        go_upto_region 11 with (at_builtin; go_loud (refine wpList_app rfl (.tmp 45) (.tmp 46) 22 rfl 5 i5 (.int .u8 0) 1 Try.underlying22 hi5 hz5 hs5 hy5 rfl v2.heap.size (by simp) _ (1) _ rfl Hal.out A6 n1 c6 (X.map byteV) rfl Hp7.out (fun u hu => by obtain ⟨a, _, rfl⟩ := List.mem_map.1 hu; rfl) (by unfold maxLen; omega) (by omega) ?_; intro v11 w11 happ11 hb11))
        obtain ⟨A11, c11, e11, hc11, hR11⟩ := happ11.rd
        obtain ⟨n2, hn2⟩ : ∃ n2, n2 = 1 + n1 := ⟨_, rfl⟩
        rw [← hn2] at e11 hc11 hR11
        have hn2e : n2 = n1 + 1 := by omega
        clear hn2
        subst hn2e
        subst e11
        have hb_ : Below v2.heap.size v2 w11 := HBa.out.trans hb11
        have HR11 := Lib.hid (show Rd w11 1 A11 (n1 + 1) ((y :: X).map byteV) from by simpa using hR11)
        clear hR11 happ11 hb11 HBa Hal Hp7
        replace Hx := Lib.hid (Hx.out.below hb_)
        replace HB := Lib.hid (HB.out.trans (hb_.mono HB.out.size))
        replace HX := Lib.hid (HX.out.below hb_)
        replace HO := Lib.hid (HO.out.below hb_)
        replace HO2 := Lib.hid (HO2.out.below hb_)
        clear hb_
        go_wp2_with fail
        refine (Order_any A11 (n1 + 1) c11 (y :: X) w11 HR11.out (by omega)).mono ?_
        rintro e_ v3 ⟨⟨O3, oc3, mm, rfl, hoc3, ho3, hord3⟩, hb_⟩
        replace Hx := Lib.hid (Hx.out.below hb_)
        replace HB := Lib.hid (HB.out.trans (hb_.mono HB.out.size))
        replace HX := Lib.hid (HX.out.below hb_)
        replace HO := Lib.hid (HO.out.below hb_)
        replace HO2 := Lib.hid (HO2.out.below hb_)
        clear hb_
        have HO3 := Lib.hid ho3
        have Hm := Lib.hid hord3
        clear ho3 hord3 HR11
        have d51 : ((n1 : Int) != (n1 : Int)) = false := by simp
        have d52 : (n1 != n1) = false := by simp
        have w1 : IntKind.i64.wrap ((n1 : Int) + 1) = (n1 : Int) + 1 := by simp [IntKind.wrap, IntKind.bits, IntKind.signed]; omega
        have d53 : (((n1 + 1 : Nat) : Int) != (n1 : Int) + 1) = false := by simp
        obtain ⟨b2, o2, e2_, _⟩ := HO2.out.2.2 (by omega)
        subst e2_
        have hl0 : v3.cell? ⟨b2, o2, none⟩ = some (.int .i64 (n1 : Int)) := by
          have := nat_at HO2.out (i := 0) (by omega)
          exact this
        obtain ⟨O4, hO4, hr4⟩ := nats_drop HO2.out (k := 1) (by omega) oc2 hoc2
        have hO4b : ∀ w, (Instr.slice 25 (.slice (some ⟨b2, o2, none⟩) (n1 + 1) oc2) (some (.int .i64 1)) none none).run Try.prog w = .ok (.slice O4 n1 (oc2 - 1)) w := fun w => by have := hO4 w; rw [Nat.add_sub_cancel] at this; exact this
        have Hr4 := Lib.hid (show Rd v3 1 O4 n1 (old.map natV) from by have := hr4; rw [Nat.add_sub_cancel] at this; exact this)
        have n10 : ((n1 : Int) + 1) ≠ 0 := by omega
        have l01 : (0 : Int) < ((n1 + 1 : Nat) : Int) := by omega
        clear hO4 hr4
        have HI := Lib.hid (IntsT_any O4 O n1 n1 (oc2 - 1) oc old v3 Hr4.out HO.out)
        clear Hr4
        go_wp2_with fail
        refine HI.out.mono ?_
        rintro e_ w20 ⟨rfl, hb_⟩
        replace HO := Lib.hid (HO.out.below hb_)
        replace HO3 := Lib.hid (HO3.out.below hb_)
        replace HB := Lib.hid (HB.out.trans (hb_.mono HB.out.size))
        clear hb_ HI HO2 hl0 hO4b HX Hx
        obtain ⟨mb, mo, e3_, _⟩ := HO3.out.2.2 (by omega)
        subst e3_
        have Holl := Lib.hid (show old.length = n1 by rw [Hold.out.len]; exact HXl.out)
        have Hml := Lib.hid (show mm.length = n1 + 1 by rw [Hm.out.len, List.length_cons, HXl.out])
        clear d51 d52 d53 n10 l01 qa qb
        try clear qc
        go_wp2_with fail
        go_loopw [13, 14] (fun v13 v14 wr => ∃ i t : Nat, v14 = .int .i64 (i : Int) ∧ i ≤ n1 + 1 ∧ v13 = .int .i64 (t : Int) ∧ t = nz mm i ∧ Below w20.heap.size w20 wr) (fun _ v14 _ => n1 + 1 - (intOf v14).toNat)
        case atStart => exact ⟨0, 0, rfl, by omega, rfl, rfl, Below.refl _ _⟩
        case round =>
          obtain ⟨i, t, rfl, hi3, rfl, ht, hBr⟩ := hrel
          have HBr := Lib.hid hBr
          have Ht := Lib.hid ht
          clear hBr ht
          by_cases hlt : i < n1 + 1
          · have d0 : decide ((i : Int) < (n1 : Int) + 1) = true := decide_eq_true (by omega)
            have d0n : decide (i < n1 + 1) = true := decide_eq_true hlt
            have i1 : (i : Int) < (n1 : Int) + 1 := by omega
            have i0 : (0 : Int) ≤ (i : Int) := by omega
            have cz := nat_at (HO3.out.below HBr.out) hlt
            have him : i < mm.length := by rw [Hml.out]; exact hlt
            have hmi : mm[i]? = some (mm.getD i 0) := by rw [getD_of him, List.getElem?_eq_getElem him]
            obtain ⟨z, hz⟩ : ∃ z, z = mm.getD i 0 := ⟨_, rfl⟩
            rw [← hz] at cz hmi
            have hnz := nz_succ hmi
            have hzle : z ≤ n1 := by
              have := Hm.out.mem.1 (List.mem_of_getElem? hmi)
              rw [List.length_cons, HXl.out] at this; omega
            by_cases hz0 : z = 0
            · rw [if_pos hz0, Nat.add_zero] at hnz
              have q1 : ((z : Int) == 0) = true := by rw [hz0]; rfl
              have q2 : (z == 0) = true := by rw [hz0]; rfl
              have q3 : decide ((z : Int) = 0) = true := decide_eq_true (by omega)
              have Hn := Lib.hid (show t = nz mm (i + 1) by rw [hnz]; exact Ht.out)
              clear hnz hz hmi hz0 him
              go_wp2_with fail
              exact ⟨⟨i + 1, t, by go_num, by omega, rfl, Hn.out, HBr.out⟩, by simp [intOf]; omega⟩
            · rw [if_neg hz0] at hnz
              have hb := begin_at Hm.out Hold.out hmi hz0
              rw [← Ht.out] at hb
              have htl : t < n1 := by have := (List.getElem?_eq_some_iff.1 hb).1; rw [Holl.out] at this; exact this
              obtain ⟨ob, oo, eo_, _⟩ := HO.out.2.2 (by omega)
              subst eo_
              have cz2 := nat_at (HO.out.below HBr.out) htl
              rw [List.getD_eq_getElem?_getD, hb, Option.getD_some] at cz2
              obtain ⟨z2, hz2⟩ : ∃ z2, z2 = z - 1 := ⟨_, rfl⟩
              rw [← hz2] at cz2
              have wz : IntKind.i64.wrap ((z2 : Int) + 1) = (z : Int) := by simp [IntKind.wrap, IntKind.bits, IntKind.signed]; omega
              have q1 : ((z : Int) == 0) = false := by rw [beq_eq_false_iff_ne]; omega
              have q2 : (z == 0) = false := by rw [beq_eq_false_iff_ne]; omega
              have g1 : decide ((t : Int) ≥ (n1 : Int)) = false := decide_eq_false (by omega)
              have g1n : decide (n1 ≤ t) = false := decide_eq_false (by omega)
              have g1m : ¬ n1 ≤ t := by omega
              have t1 : (t : Int) < (n1 : Int) := by omega
              have t0 : (0 : Int) ≤ (t : Int) := by omega
              have Hn := Lib.hid (show t + 1 = nz mm (i + 1) by rw [hnz, Ht.out])
              have Hz2 := Lib.hid hz2
              clear hnz hz hmi hz0 him hb hz2
              go_upto_region 19 with fail
              refine wp_region_flowF [97, 98, 99, 100, 101, 102, 103, 104, 105, 106, 107, 108, 109, 110, 111, 112] [(Spec.is (.int .i64 (t : Int)), false), (Spec.is (.slice (some ⟨ob, oo, none⟩) n1 oc), false), (Spec.is (.int .i64 (n1 : Int)), false), (Spec.is (.bool false), false), (Spec.is (.bool false), false), (Spec.is (.slice (some ⟨mb, mo, none⟩) (n1 + 1) oc3), false), (Spec.is (.int .i64 (i : Int)), false), (Spec.is (.pointer (some ⟨mb, mo + i, none⟩)), false), (Spec.is (.int .i64 (z : Int)), false), (Spec.is (.slice (some ⟨ob, oo, none⟩) n1 oc), false), (Spec.is (.int .i64 (t : Int)), false), (Spec.is (.pointer (some ⟨ob, oo + t, none⟩)), false), (Spec.is (.int .i64 (z2 : Int)), false), (Spec.is (.int .i64 (z : Int)), false), (Spec.is (.bool false), false), (Spec.is (.bool false), false)] 122 (by kernel_rfl) rfl (by decide) rfl (by decide) (by kernel_rfl) ?_ ?_
              · refine ⟨?_, ?_, ?_, ?_, ?_, ?_, ?_, ?_, ?_, ?_, ?_, ?_, ?_, ?_, ?_, ?_, trivial⟩
                · intro a W hE hb hs
                  have h13 : a.eval (.tmp 13) = .int .i64 (t : Int) := hb 13 (by decide)
                  refine flow0 rfl ?_
                  exact val_move _ rfl _ h13 ⟨rfl, trivial⟩
                · intro a W hE hb hs
                  have h8 : a.eval (.tmp 8) = .slice (some ⟨ob, oo, none⟩) n1 oc := hb 8 (by decide)
                  refine flow0 rfl ?_
                  exact val_move _ rfl _ h8 ⟨rfl, trivial⟩
                · intro a W hE hb hs
                  have h98 : a.eval (.tmp 98) = .slice (some ⟨ob, oo, none⟩) n1 oc := hs 1 (by decide)
                  refine flow0 rfl ?_
                  exact val_len _ 25 3 rfl Try.underlying25 _ _ _ h98 ⟨rfl, trivial⟩
                · intro a W hE hb hs
                  have h97 : a.eval (.tmp 97) = .int .i64 (t : Int) := hs 0 (by decide)
                  have h99 : a.eval (.tmp 99) = .int .i64 (n1 : Int) := hs 2 (by decide)
                  refine flow0 rfl ?_
                  intro K hK
                  unfold Oper.wp execOp
                  simp only [h97, h99]
                  simp [go_sem, g1m]
                  exact hK _ _ ⟨Below.refl _ _, rfl, trivial⟩
                · intro a W hE hb hs
                  have h100 : a.eval (.tmp 100) = .bool false := hs 3 (by decide)
                  refine flow0 rfl ?_
                  exact val_move _ rfl _ h100 ⟨rfl, trivial⟩
                · intro a W hE hb hs
                  have h12 : a.eval (.tmp 12) = .slice (some ⟨mb, mo, none⟩) (n1 + 1) oc3 := hb 12 (by decide)
                  have h101 : a.eval (.tmp 101) = .bool false := hs 4 (by decide)
                  refine flowY rfl rfl h101 ?_
                  exact val_move _ rfl _ h12 ⟨rfl, trivial⟩
                · intro a W hE hb hs
                  have h14 : a.eval (.tmp 14) = .int .i64 (i : Int) := hb 14 (by decide)
                  have h101 : a.eval (.tmp 101) = .bool false := hs 4 (by decide)
                  refine flowY rfl rfl h101 ?_
                  exact val_move _ rfl _ h14 ⟨rfl, trivial⟩
                · intro a W hE hb hs
                  have h102 : a.eval (.tmp 102) = .slice (some ⟨mb, mo, none⟩) (n1 + 1) oc3 := hs 5 (by decide)
                  have h103 : a.eval (.tmp 103) = .int .i64 (i : Int) := hs 6 (by decide)
                  have h101 : a.eval (.tmp 101) = .bool false := hs 4 (by decide)
                  refine flowY rfl rfl h101 ?_
                  intro K hK
                  unfold Oper.wp execOp
                  simp only [h102, h103]
                  simp [go_sem, i1]
                  exact hK _ _ ⟨Below.refl _ _, rfl, trivial⟩
                · intro a W hE hb hs
                  have h104 : a.eval (.tmp 104) = .pointer (some ⟨mb, mo + i, none⟩) := hs 7 (by decide)
                  have h101 : a.eval (.tmp 101) = .bool false := hs 4 (by decide)
                  refine flowY rfl rfl h101 ?_
                  have c1 : W.cell? ⟨mb, mo + i, none⟩ = some (.int .i64 (z : Int)) := cell_ext hE cz
                  intro K hK
                  unfold Oper.wp execOp
                  simp only [h104]
                  simp [go_sem, c1]
                  exact hK _ _ ⟨Below.refl _ _, rfl, trivial⟩
                · intro a W hE hb hs
                  have h8 : a.eval (.tmp 8) = .slice (some ⟨ob, oo, none⟩) n1 oc := hb 8 (by decide)
                  have h101 : a.eval (.tmp 101) = .bool false := hs 4 (by decide)
                  refine flowY rfl rfl h101 ?_
                  exact val_move _ rfl _ h8 ⟨rfl, trivial⟩
                · intro a W hE hb hs
                  have h13 : a.eval (.tmp 13) = .int .i64 (t : Int) := hb 13 (by decide)
                  have h101 : a.eval (.tmp 101) = .bool false := hs 4 (by decide)
                  refine flowY rfl rfl h101 ?_
                  exact val_move _ rfl _ h13 ⟨rfl, trivial⟩
                · intro a W hE hb hs
                  have h106 : a.eval (.tmp 106) = .slice (some ⟨ob, oo, none⟩) n1 oc := hs 9 (by decide)
                  have h107 : a.eval (.tmp 107) = .int .i64 (t : Int) := hs 10 (by decide)
                  have h101 : a.eval (.tmp 101) = .bool false := hs 4 (by decide)
                  refine flowY rfl rfl h101 ?_
                  intro K hK
                  unfold Oper.wp execOp
                  simp only [h106, h107]
                  simp [go_sem, t1]
                  exact hK _ _ ⟨Below.refl _ _, rfl, trivial⟩
                · intro a W hE hb hs
                  have h108 : a.eval (.tmp 108) = .pointer (some ⟨ob, oo + t, none⟩) := hs 11 (by decide)
                  have h101 : a.eval (.tmp 101) = .bool false := hs 4 (by decide)
                  refine flowY rfl rfl h101 ?_
                  have c1 : W.cell? ⟨ob, oo + t, none⟩ = some (.int .i64 (z2 : Int)) := cell_ext hE cz2
                  intro K hK
                  unfold Oper.wp execOp
                  simp only [h108]
                  simp [go_sem, c1]
                  exact hK _ _ ⟨Below.refl _ _, rfl, trivial⟩
                · intro a W hE hb hs
                  have h109 : a.eval (.tmp 109) = .int .i64 (z2 : Int) := hs 12 (by decide)
                  have h101 : a.eval (.tmp 101) = .bool false := hs 4 (by decide)
                  refine flowY rfl rfl h101 ?_
                  intro K hK
                  unfold Oper.wp execOp
                  simp only [h109, BigFrame.eval_const]
                  simp [go_sem, wz]
                  exact hK _ _ ⟨Below.refl _ _, rfl, trivial⟩
                · intro a W hE hb hs
                  have h105 : a.eval (.tmp 105) = .int .i64 (z : Int) := hs 8 (by decide)
                  have h110 : a.eval (.tmp 110) = .int .i64 (z : Int) := hs 13 (by decide)
                  have h101 : a.eval (.tmp 101) = .bool false := hs 4 (by decide)
                  refine flowY rfl rfl h101 ?_
                  intro K hK
                  unfold Oper.wp execOp
                  simp only [h105, h110]
                  simp [go_sem]
                  exact hK _ _ ⟨Below.refl _ _, rfl, trivial⟩
                · intro a W hE hb hs
                  have h101 : a.eval (.tmp 101) = .bool false := hs 4 (by decide)
                  have h111 : a.eval (.tmp 111) = .bool false := hs 14 (by decide)
                  refine flow0 rfl ?_
                  exact val_pick _ _ _ rfl false h101 _ (by rw [if_neg (by decide)]; exact h111) ⟨rfl, trivial⟩
              intro f W hb hT hp hd
              have e112 : f 112 = .bool false := hT 15 (by decide)
              have HbW := Lib.hid (HBr.out.trans (hb.mono HBr.out.size))
              simp only [putV, List.foldl_cons, List.foldl_nil, Act.put, List.setIfInBounds_toArray, List.set_cons_succ, List.set_cons_zero, Exit.then]
              rw [e112]
              clear hb hT hp hd e112 cz cz2 wz
              go_wp2_with fail
              exact ⟨⟨i + 1, t + 1, by go_num, by omega, by go_num, Hn.out, HbW.out⟩, by simp [intOf]; omega⟩
          · have hie : i = mm.length := by rw [Hml.out]; omega
            have hte : t = n1 := by rw [Ht.out, hie, begin_all Hm.out Hold.out]; exact Holl.out
            have d0 : decide ((i : Int) < (n1 : Int) + 1) = false := decide_eq_false (by omega)
            have d0n : decide (i < n1 + 1) = false := decide_eq_false hlt
            have d0m : ¬ ((i : Int) < (n1 : Int) + 1) := by omega
            have k1 : ((t : Int) == (n1 : Int)) = true := by rw [hte]; simp
            have k2 : (t == n1) = true := by rw [hte]; simp
            have HE := Lib.hid (HB.out.trans (HBr.out.mono HB.out.size))
            clear hie hte hlt
            go_wp2_with fail
            go_ret
            exact ⟨rfl, HE.out⟩
end Go.Proofs.Ytcelkneeedebiaa
