/- SuffixBytes: the walk. -/
import Derived.Test.YtcelkneeedebiaaX30
namespace Go.Proofs.Ytcelkneeedebiaa
open Go Go.RowKit Go.Sort Go.Shelf

/-- Appending to an own slice: the block stays, or is a new one. -/
theorem run_app2 {P : Program} (w : World) (t ty e : TypeId) (i : TypeInfo) (z : Value) (sz bytes : Nat) (ht : P.underlying t = some (.slice e)) (hi : P.info? e = some i) (hz : i.zero = some z) (hs : i.size = sz) (hby : i.bytes = bytes) (hzs : z.cells.size = sz) (hsz : 0 < sz)
    (base : Nat) (hbase : base ≤ w.heap.size) (v : Value) (n : Nat) (xs : List Value) (h : AppZ w base e sz v n xs) (A : Option Addr) (m c : Nat) (news : List Value) (hrd : Rd w sz A m news) (h1 : ∀ u ∈ news, u.oneCell' = true)
    (h63 : n + m ≤ maxLen) (hbytes : (n + m) * bytes ≤ 140737488355328) :
    ∃ v' w', (Builtin.append_ #[t, t] ty #[v, .slice A m c]).run P w = .ok v' w' ∧ AppZ w' base e sz v' (n + m) (xs ++ news) ∧ w.grownBy w' v.ownBlock ∧ (v'.ownBlock = v.ownBlock ∨ ∀ k, v'.ownBlock = some k → w.heap.size ≤ k) := by
  obtain ⟨v', w', hr, h2, h3⟩ := run_appz (P := P) w t ty e i z sz bytes ht hi hz hs hby hzs hsz base hbase v n xs h A m c news hrd h1 h63 hbytes
  refine ⟨v', w', hr, h2, h3, ?_⟩
  by_cases hm : m = 0
  · subst hm
    rcases h with ⟨rfl, rfl, a, rfl, hb, hlt⟩ | h
    · rw [run_append_zero w t ty e i ht hi _ _ _ _ _ (Nat.le_refl _)] at hr
      injection hr with e1 _
      exact .inl (by rw [← e1])
    · rcases h.2 with ⟨rfl, rfl⟩ | ⟨g, cap, cur, rfl, hb, hg, hnc, hcm, _⟩
      · rw [run_append_zero w t ty e i ht hi _ _ _ _ _ (Nat.le_refl _)] at hr
        injection hr with e1 _
        exact .inl (by rw [← e1])
      · rw [run_append_zero w t ty e i ht hi _ _ _ _ _ hnc] at hr
        injection hr with e1 _
        exact .inl (by rw [← e1])
  · obtain ⟨b, off, rfl, hc⟩ := hrd.2.2 (by omega)
    have hnews : ∀ j u, news[j]? = some u → w.cell? ((⟨b, off, .none⟩ : Addr).add j) = some u := fun j u hj => by
      rw [show (⟨b, off, .none⟩ : Addr).add j = ⟨b, off + j, .none⟩ from by unfold Addr.add; split <;> simp_all]
      exact hc j u hj
    rcases h with ⟨rfl, rfl, a, rfl, hb, hlt⟩ | h
    · obtain ⟨v2, w2, hr2, ho, hg⟩ := run_append_arg_grows (P := P) w t ty e i z sz bytes ht hi hz hs hby hzs hsz a 0 0 [] (by simp) (by simp) ⟨b, off, .none⟩ m c news hrd.1 hnews (by omega) h63 hbytes
      rw [hr2] at hr
      injection hr with e1 _
      exact .inr fun k hk => (ho.lt k (by rw [e1]; exact hk)).1
    · rcases h.2 with ⟨rfl, rfl⟩ | ⟨g, cap, cur, rfl, hb, hg, hnc, hcm, hcs, htk⟩
      · obtain ⟨v2, w2, hr2, ho, _⟩ := run_appz (P := P) w t ty e i z sz bytes ht hi hz hs hby hzs hsz w.heap.size (Nat.le_refl _) _ 0 [] (AppZ.nil w) _ m c news hrd h1 h63 hbytes
        rw [hr2] at hr
        injection hr with e1 _
        exact .inr fun k hk => (ho.lt k (by rw [e1]; exact hk)).1
      · by_cases hroom : n + m ≤ cap
        · have hr2 := run_append_room (P := P) w t ty e i ht hi g n cap cur hg ⟨b, off, .none⟩ m c news (by rw [hs]; exact hrd.1) hnews h1 hroom (by rw [hs, hrd.1, hcs, ← Nat.add_mul]; exact Nat.mul_le_mul_right _ hroom)
          rw [hr2] at hr
          injection hr with e1 _
          exact .inl (by rw [← e1]; rfl)
        · obtain ⟨v2, w2, hr2, ho, _⟩ := run_append_arg_grows (P := P) w t ty e i z sz bytes ht hi hz hs hby hzs hsz ⟨g, 0, none⟩ n cap xs h.1 (h.cells rfl) ⟨b, off, .none⟩ m c news hrd.1 hnews (by omega) h63 hbytes
          rw [hr2] at hr
          injection hr with e1 _
          exact .inr fun k hk => (ho.lt k (by rw [e1]; exact hk)).1
theorem wpList_app2 {P : Program} {ops : Array Oper} {rest : List Oper} {o : Oper} {a : Act} {w : World} {Q : Exit → Act → World → Prop}
    (hg : o.guard = none) (s x : Operand) (t : TypeId) (hop : o.op = Op.call { callee := Callee.builtin Builtin.append, args := #[s, x], argTypes := #[t, t] })
    (e : TypeId) (i : TypeInfo) (z : Value) (sz bytes : Nat) (ht : P.underlying t = some (.slice e)) (hi : P.info? e = some i) (hz : i.zero = some z) (hs : i.size = sz) (hby : i.bytes = bytes) (hzs : z.cells.size = sz) (hsz : 0 < sz)
    (base : Nat) (hbase : base ≤ w.heap.size) (v : Value) (n : Nat) (xs : List Value) (hv : a.eval s = v) (h : AppZ w base e sz v n xs) (A : Option Addr) (m c : Nat) (news : List Value) (hx : a.eval x = .slice A m c) (hrd : Rd w sz A m news) (h1 : ∀ u ∈ news, u.oneCell' = true)
    (h63 : n + m ≤ maxLen) (hbytes : (n + m) * bytes ≤ 140737488355328)
    (hK : ∀ v' w', AppZ w' base e sz v' (n + m) (xs ++ news) → w.grownBy w' v.ownBlock → (v'.ownBlock = v.ownBlock ∨ ∀ k, v'.ownBlock = some k → w.heap.size ≤ k) → wpList P ops Q rest (a.put o.dst v') w') :
    wpList P ops Q (o :: rest) a w := by
  refine wpList_plain hg fun K hK' => ?_
  obtain ⟨v', w', hr, h2, h3, h4⟩ := run_app2 (P := P) w t o.type e i z sz bytes ht hi hz hs hby hzs hsz base hbase v n xs h A m c news hrd h1 h63 hbytes
  unfold Oper.wp execOp
  simp only [hop, resolve, invoke, builtin, Sem.run_bind, Sem.run_pure, Result.andThen_ok, List.map_toArray, List.map_cons, List.map_nil, hv, hx, hr]
  exact hK' _ _ (hK v' w' h2 h3 h4)
theorem u8_add (a b : UInt8) : IntKind.u8.wrap ((a.toNat : Int) + (b.toNat : Int)) = ((a + b).toNat : Int) := by
  rw [UInt8.toNat_add]; simp [IntKind.wrap, IntKind.bits, IntKind.signed]
theorem u8_mul (a b : UInt8) : IntKind.u8.wrap ((a.toNat : Int) * (b.toNat : Int)) = ((a * b).toNat : Int) := by
  rw [UInt8.toNat_mul]; simp [IntKind.wrap, IntKind.bits, IntKind.signed]
theorem u8_tmod (a b : UInt8) : ((a.toNat : Int)).tmod (b.toNat : Int) = ((a % b).toNat : Int) := by
  rw [UInt8.toNat_mod]; exact (Int.ofNat_tmod _ _).symm
theorem ownBlock_lt {w : World} {base e sz n : Nat} {v : Value} {xs : List Value} (h : AppZ w base e sz v n xs) : ∀ k, v.ownBlock = some k → k < w.heap.size := fun k hk => (h.lt k hk).2
set_option maxRecDepth 100000 in
set_option maxHeartbeats 4000000 in
theorem SuffixBytes_any (A : Option Addr) (n c : Nat) (xs : List UInt8) (t0 p0 : UInt8) (w : World) (hx : Rd w 1 A n (xs.map byteV)) (_hc : n ≤ c) :
    Calls Try.prog 9 #[.slice A n c, .int .u8 (t0.toNat : Int), .int .u8 (p0.toNat : Int)] w fun e w' => e = .returned (.bool true) ∧ Below w.heap.size w w' := by
  obtain ⟨i5, hi5, hz5, hs5, hy5⟩ := info_parts info5v
  have hnl := hx.le
  have Hx := Lib.hid hx
  have HB := Lib.hid (Below.refl w.heap.size w)
  clear hx
  go_enter Try.func9, Try.ntmps9
  go_wp2_with fail
  refine (sanity_any w).mono ?_
  rintro e_ v1 ⟨rfl, hb_⟩
  replace Hx := Lib.hid (Hx.out.below hb_)
  replace HB := Lib.hid (HB.out.trans (hb_.mono HB.out.size))
  clear hb_
  have hbs := nil22
  go_upto_region 4 with fail
  obtain ⟨w2, hw2⟩ : ∃ v, v = (v1.alloc (.cells #[] 5)).alloc (.cells #[] 5) := ⟨_, rfl⟩
  obtain ⟨B, hB⟩ : ∃ v, v = v1.heap.size := ⟨_, rfl⟩
  have hb2 : Below v1.heap.size v1 w2 := by rw [hw2]; exact ((Below.refl v1.heap.size v1).alloc (Nat.le_refl _) _).alloc (by simp) _
  have hx0 : AppZ w2 B 5 1 (.slice (some ⟨B, 0, none⟩) 0 0) 0 [] := by rw [hw2, hB]; exact (AppZ.empty v1 (Nat.le_refl _) _).alloc _
  have hy0 : AppZ w2 B 5 1 (.slice (some ⟨B + 1, 0, none⟩) 0 0) 0 [] := by
    have := AppZ.empty (sz := 1) (e := 5) (base := B) (v1.alloc (.cells #[] 5)) (by rw [hB]; simp) (.cells #[] 5)
    rw [World.size_alloc, ← hB, ← hw2] at this
    exact this
  have hBle : B ≤ w2.heap.size := by rw [hB]; exact hb2.size
  rw [← hw2, ← hB]
  have HwB := Lib.hid (show w.heap.size ≤ B by rw [hB]; exact HB.out.size)
  have HBe := Lib.hid hB
  have Hb12 := Lib.hid (show Below B v1 w2 by rw [hB]; exact hb2)
  replace HB := Lib.hid (HB.out.trans (hb2.mono HB.out.size))
  have HX0 := Lib.hid hx0
  have HY0 := Lib.hid hy0
  clear hw2 hB hb2 hx0 hy0 hbs
  obtain ⟨r2, hr2⟩ : ∃ r2 : UInt8, r2 = t0 % 2 := ⟨_, rfl⟩
  obtain ⟨k, hk⟩ : ∃ k : UInt8, k = 1 + r2 := ⟨_, rfl⟩
  obtain ⟨q, hq⟩ : ∃ q : UInt8, q = p0 % 56 := ⟨_, rfl⟩
  have e1 : ((t0.toNat : Int)).tmod 2 = (r2.toNat : Int) := by rw [hr2]; exact u8_tmod t0 2
  have e2 : IntKind.u8.wrap (1 + (r2.toNat : Int)) = (k.toNat : Int) := by rw [hk]; exact u8_add 1 r2
  have e3 : ((p0.toNat : Int)).tmod 56 = (q.toNat : Int) := by rw [hq]; exact u8_tmod p0 56
  have hr2n : r2.toNat < 2 := by rw [hr2, UInt8.toNat_mod]; exact Nat.mod_lt _ (by decide)
  have Hk := Lib.hid (show k = 1 ∨ k = 2 from by
    have hkn : k.toNat = 1 + r2.toNat := by rw [hk, UInt8.toNat_add]; show (1 + r2.toNat) % 256 = _; omega
    rcases (show r2.toNat = 0 ∨ r2.toNat = 1 by omega) with h | h
    · exact .inl (UInt8.toNat_inj.1 (by rw [hkn, h]; rfl))
    · exact .inr (UInt8.toNat_inj.1 (by rw [hkn, h]; rfl)))
  have Hq := Lib.hid (show q.toNat < 56 by rw [hq, UInt8.toNat_mod]; exact Nat.mod_lt _ (by decide))
  have w1 : IntKind.u8.wrap (r2.toNat : Int) = (r2.toNat : Int) := by simp [IntKind.wrap, IntKind.bits, IntKind.signed]; omega
  have w3 : IntKind.u8.wrap (q.toNat : Int) = (q.toNat : Int) := by have := q.toNat_lt; simp [IntKind.wrap, IntKind.bits, IntKind.signed]; omega
  clear hr2 hk hq hr2n
  go_wp2_with fail
  obtain ⟨gx, hgx⟩ : ∃ gx : UInt8 → UInt8, gx = fun x => x % 100 := ⟨_, rfl⟩
  obtain ⟨gy, hgy⟩ : ∃ gy : UInt8 → UInt8, gy = fun x => k * x + q := ⟨_, rfl⟩
  have Hgx := Lib.hid hgx
  have Hgy := Lib.hid hgy
  clear hgx hgy e1 e2 w1
  go_loopw [8, 9, 11, 12] (fun v8 v9 v11 _ wr => ∃ i : Nat, v11 = .int .i64 (i : Int) ∧ i ≤ n ∧ i ≤ 200 ∧ AppZ wr B 5 1 v8 i (((xs.map gx).take i).map byteV) ∧ AppZ wr B 5 1 v9 i ((((xs.map gx).map gy).take i).map byteV) ∧ v8.ownBlock ≠ v9.ownBlock ∧ Below B w2 wr ∧ B ≤ wr.heap.size) (fun _ _ v11 _ _ => 200 - (intOf v11).toNat)
  case atStart => exact ⟨0, rfl, by omega, by omega, HX0.out, HY0.out, (by simp [Value.ownBlock]), Below.refl _ _, hBle⟩
  case round =>
    clear HX0 HY0
    obtain ⟨i, rfl, hi, hi2, hax, hay, hne, hBr, hBs⟩ := hrel
    have HAx := Lib.hid hax
    have HAy := Lib.hid hay
    have Hne := Lib.hid hne
    have HBr := Lib.hid hBr
    have Hxr := Lib.hid (show Rd wr 1 A n (xs.map byteV) from Hx.out.below (by rw [← HBe.out]; exact Hb12.out.trans hBr))
    clear hax hay hne hBr
    by_cases hlt : i < n ∧ i < 200
    · obtain ⟨hl1, hl2⟩ := hlt
      have d0 : decide ((i : Int) < (n : Int)) = true := decide_eq_true (by omega)
      have d1 : decide ((i : Int) < 200) = true := decide_eq_true (by omega)
      have d1n : decide (i < 200) = true := decide_eq_true hl2
      obtain ⟨b, off, x, rfl, hxi, cx⟩ := Hxr.out.at_ hl1
      have cx' : wr.cell? ⟨b, off + i, none⟩ = some (.int .u8 (x.toNat : Int)) := cx
      have i1 : (i : Int) < (n : Int) := by omega
      have i0 : (0 : Int) ≤ (i : Int) := by omega
      obtain ⟨cc, hcc⟩ : ∃ cc, cc = gx x := ⟨_, rfl⟩
      obtain ⟨kc, hkc⟩ : ∃ kc, kc = k * cc := ⟨_, rfl⟩
      obtain ⟨dd, hdd⟩ : ∃ dd, dd = gy cc := ⟨_, rfl⟩
      have f1 : ((x.toNat : Int)).tmod 100 = (cc.toNat : Int) := by rw [hcc, Hgx.out]; exact u8_tmod x 100
      have f1w : IntKind.u8.wrap (cc.toNat : Int) = (cc.toNat : Int) := by have := cc.toNat_lt; simp [IntKind.wrap, IntKind.bits, IntKind.signed]; omega
      have f2 : IntKind.u8.wrap ((k.toNat : Int) * (cc.toNat : Int)) = (kc.toNat : Int) := by rw [hkc]; exact u8_mul k cc
      have f3 : IntKind.u8.wrap ((kc.toNat : Int) + (q.toNat : Int)) = (dd.toNat : Int) := by rw [hdd, Hgy.out, hkc]; exact u8_add _ q
      have Htx := Lib.hid (show (xs.map gx).take (i + 1) = (xs.map gx).take i ++ [cc] by rw [List.take_add_one, List.getElem?_map, hxi, hcc]; rfl)
      have Hty := Lib.hid (show ((xs.map gx).map gy).take (i + 1) = ((xs.map gx).map gy).take i ++ [dd] by rw [List.take_add_one, List.getElem?_map, List.getElem?_map, hxi, hdd, hcc]; rfl)
      clear hxi cx hcc hkc hdd
      go_upto_region 10 with (at_builtin; go_loud (refine wpList_app2 rfl (.tmp 36) (.tmp 38) 22 rfl 5 i5 (.int .u8 0) 1 1 Try.underlying22 hi5 hz5 hs5 hy5 rfl (by decide) B (by simp; omega) u8 (i) _ rfl (HAx.out.alloc _) (some ⟨wr.heap.size, 0, none⟩) 1 1 [byteV cc] rfl (lit_rdE _ _ _) (by simp [byteV, Value.oneCell']) (by unfold maxLen; omega) (by omega) ?_; intro vx w6 happ6 hg6 ho6))
      have hy6 := (HAy.out.alloc (.cells #[byteV cc] 5)).kept hg6 (.inr fun e => Hne.out e.symm)
      have hB6 : Below B w2 w6 := Below.grown (HBr.out.alloc hBs _) hg6 (by simp; omega) (fun k' hk' => (HAx.out.lt k' hk').1)
      have hs6 := hg6.size
      rw [World.size_alloc] at hs6
      have hne6 : vx.ownBlock ≠ u9.ownBlock := fun e => by
        rcases ho6 with h | h
        · exact Hne.out (h.symm.trans e)
        · cases hv : u9.ownBlock with
          | none =>
            rw [hv] at e
            obtain ⟨A', c', rfl, _, _⟩ := happ6.rd
            cases A' with
            | some a => cases e
            | none => exact absurd (happ6.rd) (fun ⟨A2, c2, e2, _, hr2⟩ => by
                cases e2
                obtain ⟨_, _, e3, _⟩ := hr2.2.2 (by omega)
                cases e3)
          | some kk =>
            rw [hv] at e
            have h1 := h kk e
            have h2 := ownBlock_lt HAy.out kk hv
            rw [World.size_alloc] at h1
            omega
      have HA6x := Lib.hid happ6
      have HA6y := Lib.hid hy6
      have HB6 := Lib.hid hB6
      have Hne6 := Lib.hid hne6
      clear happ6 hg6 ho6 hy6 hB6 hne6
      go_wp2_with (at_builtin; go_loud (refine wpList_app2 rfl (.tmp 40) (.tmp 47) 22 rfl 5 i5 (.int .u8 0) 1 1 Try.underlying22 hi5 hz5 hs5 hy5 rfl (by decide) B (by simp; omega) u9 (i) _ rfl (HA6y.out.alloc _) (some ⟨w6.heap.size, 0, none⟩) 1 1 [byteV dd] rfl (lit_rdE _ _ _) (by simp [byteV, Value.oneCell']) (by unfold maxLen; omega) (by omega) ?_; intro vy w7 happ7 hg7 ho7))
      have hx7 := (HA6x.out.alloc (.cells #[byteV dd] 5)).kept hg7 (.inr Hne6.out)
      have hB7 : Below B w2 w7 := Below.grown (HB6.out.alloc (by omega) _) hg7 (by simp; omega) (fun k' hk' => (HA6y.out.lt k' hk').1)
      have hs7 := hg7.size
      rw [World.size_alloc] at hs7
      have hne7 : vx.ownBlock ≠ vy.ownBlock := fun e => by
        rcases ho7 with h | h
        · exact Hne6.out (e.trans h)
        · cases hv : vx.ownBlock with
          | none =>
            obtain ⟨A', c', rfl, _, hr2⟩ := HA6x.out.rd
            obtain ⟨_, _, e3, _⟩ := hr2.2.2 (by omega)
            rw [e3] at hv
            cases hv
          | some kk =>
            have h1 := h kk (by rw [← e]; exact hv)
            have h2 := ownBlock_lt HA6x.out kk hv
            rw [World.size_alloc] at h1
            omega
      have HE := Lib.hid (show AppZ w7 B 5 1 vx (i + 1) (((xs.map gx).take (i + 1)).map byteV) ∧ AppZ w7 B 5 1 vy (i + 1) ((((xs.map gx).map gy).take (i + 1)).map byteV) ∧ vx.ownBlock ≠ vy.ownBlock ∧ Below B w2 w7 ∧ B ≤ w7.heap.size from ⟨by rw [Htx.out, List.map_append]; exact hx7, by rw [Hty.out, List.map_append]; exact happ7, hne7, hB7, by omega⟩)
      clear happ7 hg7 ho7 hx7 hB7 hne7
      go_wp2_with fail
      exact ⟨⟨i + 1, by go_num, by omega, by omega, HE.out⟩, by simp [intOf]; omega⟩
    · have hcase : (decide ((i : Int) < (n : Int)) = false ∧ decide (i < n) = false) ∨ (decide ((i : Int) < (n : Int)) = true ∧ decide ((i : Int) < 200) = false ∧ decide (i < 200) = false) := by
        by_cases q : i < n
        · exact .inr ⟨decide_eq_true (by omega), decide_eq_false (by omega), decide_eq_false (by omega)⟩
        · exact .inl ⟨decide_eq_false (by omega), decide_eq_false (by omega)⟩
      obtain ⟨X, hX⟩ : ∃ X, X = (xs.map gx).take i := ⟨_, rfl⟩
      obtain ⟨Y, hY⟩ : ∃ Y, Y = ((xs.map gx).map gy).take i := ⟨_, rfl⟩
      have HYX := Lib.hid (show Y = X.map gy by rw [hX, hY, List.map_take])
      rw [← hX] at HAx
      rw [← hY] at HAy
      obtain ⟨AX, cX, rfl, hcX, hRX⟩ := HAx.out.rd
      obtain ⟨AY, cY, rfl, hcY, hRY⟩ := HAy.out.rd
      have HX := Lib.hid hRX
      have HY := Lib.hid hRY
      have HXl := Lib.hid (show X.length = i from hRX.len1)
      have Hg := Lib.hid (show ∀ a ∈ X, ∀ b ∈ X, (gy a < gy b ↔ a < b) ∧ (gy a = gy b ↔ a = b) from fun a ha b hb => by
        have hlt100 : ∀ z ∈ X, z.toNat < 100 := fun z hz => by
          rw [hX] at hz
          obtain ⟨u, _, rfl⟩ := List.mem_map.1 (List.mem_of_mem_take hz)
          rw [Hgx.out]
          show (u % 100).toNat < 100
          rw [UInt8.toNat_mod]
          exact Nat.mod_lt _ (by decide)
        rw [Hgy.out]
        exact turn_byte Hq.out Hk.out (hlt100 a ha) (hlt100 b hb))
      replace HB := Lib.hid (HB.out.trans ((HBr.out).mono HwB.out))
      have Hcase := Lib.hid hcase
      have hn1 : ∃ n1, n1 = i := ⟨_, rfl⟩
      obtain ⟨n1, hn1⟩ := hn1
      have hle : n1 ≤ 200 := by omega
      clear hcase hX hY hRX hRY HAx HAy Hne HBr hlt Hxr Hx Hb12 HBe HwB
      subst hn1
      obtain ⟨w3', hw3⟩ : ∃ v, v = wr := ⟨_, rfl⟩
      subst hw3
      rcases Hcase.out with ⟨qa, qb⟩ | ⟨qa, qb, qc⟩
      all_goals (go_upto_region 11 with fail)
      all_goals
        go_wp2_with fail
        refine (Order_any AX n1 cX X w3' HX.out (by omega)).mono ?_
        rintro e_ v1 ⟨⟨O, oc, l, rfl, hoc, ho, hord⟩, hb_⟩
        replace HB := Lib.hid (HB.out.trans (hb_.mono HB.out.size))
        replace HX := Lib.hid (HX.out.below hb_)
        replace HY := Lib.hid (HY.out.below hb_)
        clear hb_
        have HO := Lib.hid ho
        have Hord := Lib.hid hord
        have Hlt := Lib.hid (show ∀ i ∈ l, i < n1 from fun i hi => by rw [← HXl.out]; exact hord.mem.1 hi)
        clear ho hord
        go_wp2_with fail
        refine (Order_any AY n1 cY Y v1 HY.out (by omega)).mono ?_
        rintro e_ v2 ⟨⟨O2, oc2, l2, rfl, hoc2, ho2, hord2⟩, hb_⟩
        replace HB := Lib.hid (HB.out.trans (hb_.mono HB.out.size))
        replace HX := Lib.hid (HX.out.below hb_)
        replace HY := Lib.hid (HY.out.below hb_)
        replace HO := Lib.hid (HO.out.below hb_)
        clear hb_
        obtain rfl : l = l2 := (by have h := ord_map Hg.out Hord.out; rw [← HYX.out] at h; exact h.unique hord2)
        have HO2 := Lib.hid ho2
        clear ho2 hord2
        go_wp2_with fail
        refine (IntsT_any O O2 n1 n1 oc oc2 _ v2 HO.out HO2.out).mono ?_
        rintro e_ v3 ⟨rfl, hb_⟩
        replace HB := Lib.hid (HB.out.trans (hb_.mono HB.out.size))
        replace HX := Lib.hid (HX.out.below hb_)
        replace HY := Lib.hid (HY.out.below hb_)
        replace HO := Lib.hid (HO.out.below hb_)
        replace HO2 := Lib.hid (HO2.out.below hb_)
        clear hb_
        have d5 : ((n1 : Int) == (n1 : Int)) = true := by simp
        have d6 : (n1 == n1) = true := by simp
        clear HO2
        go_wp2_with fail
        refine (Perm_any O n1 oc l v3 (by rw [← ints_nat]; exact HO.out) (by omega) (by have := Hord.out.1; rwa [HXl.out] at this)).mono ?_
        rintro e_ v4 ⟨rfl, hb_⟩
        replace HB := Lib.hid (HB.out.trans (hb_.mono HB.out.size))
        replace HX := Lib.hid (HX.out.below hb_)
        replace HY := Lib.hid (HY.out.below hb_)
        replace HO := Lib.hid (HO.out.below hb_)
        clear hb_
        clear d5 d6
        go_wp2_with fail
        refine (Common_any AX O n1 n1 cX oc X l v4 HX.out HO.out hcX (by omega) Hlt.out).mono ?_
        rintro e_ v5 ⟨⟨C1, cc1, rfl, hcc1, hc1⟩, hb_⟩
        replace HB := Lib.hid (HB.out.trans (hb_.mono HB.out.size))
        replace HX := Lib.hid (HX.out.below hb_)
        replace HY := Lib.hid (HY.out.below hb_)
        replace HO := Lib.hid (HO.out.below hb_)
        clear hb_
        have HC1 := Lib.hid hc1
        clear hc1
        go_wp2_with fail
        refine (Common_any AY O n1 n1 cY oc Y l v5 HY.out HO.out hcY (by omega) Hlt.out).mono ?_
        rintro e_ v6 ⟨⟨C2, cc2, rfl, hcc2, hc2⟩, hb_⟩
        replace HB := Lib.hid (HB.out.trans (hb_.mono HB.out.size))
        replace HX := Lib.hid (HX.out.below hb_)
        replace HY := Lib.hid (HY.out.below hb_)
        replace HO := Lib.hid (HO.out.below hb_)
        replace HC1 := Lib.hid (HC1.out.below hb_)
        clear hb_
        have hcm : comL Y l = comL X l := by rw [HYX.out]; exact com_map fun a ha b hb => (Hg.out a ha b hb).2
        rw [hcm] at hc2
        have HC2 := Lib.hid hc2
        clear hc2 hcm
        go_wp2_with fail
        refine (IntsT_any C1 C2 n1 n1 cc1 cc2 _ v6 HC1.out HC2.out).mono ?_
        rintro e_ v7 ⟨rfl, hb_⟩
        replace HB := Lib.hid (HB.out.trans (hb_.mono HB.out.size))
        replace HX := Lib.hid (HX.out.below hb_)
        replace HY := Lib.hid (HY.out.below hb_)
        replace HO := Lib.hid (HO.out.below hb_)
        replace HC1 := Lib.hid (HC1.out.below hb_)
        replace HC2 := Lib.hid (HC2.out.below hb_)
        clear hb_
        go_wp2_with fail
        go_ret
        exact ⟨rfl, HB.out⟩
end Go.Proofs.Ytcelkneeedebiaa
