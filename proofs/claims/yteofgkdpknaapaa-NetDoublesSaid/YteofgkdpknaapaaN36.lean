/- NetDoubles: the walk. -/
import Derived.Test.YteofgkdpknaapaaN35
import Derived.Deep.DeepAppendRoom
namespace Go.Proofs.Yteofgkdpknaapaa
open Go.RowKit Go.Sort

theorem OwnP.len {w : World} {base n : Nat} {v : Value} {ps : List Pk} (h : OwnP w base v n ps) : ps.length = n := by
  obtain ⟨A, c, rfl, _, hk⟩ := h.pks
  exact hk.len
theorem OwnP.setNet {w : World} {base n g : Nat} {v u : Value} {cs : Array Value} {ps : List Pk} (h : OwnP w base v n ps) (hB : Blk w g 30 cs) : OwnP (w.setCell ⟨g, 0, none⟩ u) base v n ps := by
  have k1 : KeptIn (fun q => q ≠ g) w (w.setCell ⟨g, 0, none⟩ u) := (KeptIn.refl (fun q => q ≠ g) w).setAt (fun hk => hk rfl) _
  have hs : ∀ t, t ≠ 30 → ∀ b cur, Blk w b t cur → b ≠ g := fun t h b cur hb => hb.ne hB h
  obtain ⟨⟨us, h1, h2⟩, h3⟩ := h
  refine ⟨⟨us, h1.kept (KeptIn.grownBut k1) ?_, h2.keptIn k1 (hs _ (by decide)) (hs _ (by decide)) (hs _ (by decide))⟩, fun q e => ?_⟩
  · refine .inr fun e => ?_
    obtain ⟨cur, hc⟩ := h3 g e
    exact hc.ne hB (by decide) rfl
  · obtain ⟨cur, hc⟩ := h3 q e
    exact ⟨cur, hc.keptIn k1 (hs _ (by decide) q cur hc)⟩
def lenAt (w : World) (g : Nat) : Nat := match w.cell? ⟨g, 0, none⟩ with
  | some (.slice _ n _) => n
  | _ => 0
theorem lenAt_of {w : World} {g n c : Nat} {A : Option Addr} (h : Blk w g 30 #[.slice A n c]) : lenAt w g = n := by
  unfold lenAt
  rw [(h.cell 0).trans (show _ = some (.slice A n c) from rfl)]
theorem erase_end (L : List Pk) (x : Pk) : (L ++ [x]).eraseIdx L.length = L := by
  rw [List.eraseIdx_append_of_length_le (Nat.le_refl _)]
  simp
theorem KeptIn.grownT {w w' : World} {base : Nat} {S : Nat → Prop} (hk : KeptT w w') (hb : Below base w w') (h : ∀ q, S q → q < base ∨ ∃ t cs, t ≠ 39 ∧ Blk w q t cs) : KeptIn S w w' :=
  ⟨hk.os, hk.tape, hk.output, hk.size, fun q hq => (h q hq).elim (fun hq => hb.block q hq) fun hq => hk.block q hq⟩
theorem rd_of_range {w : World} {b off : Nat} {v : Pv} (h : w.rangeAt b off (pvC v)) : Rd w 7 (some ⟨b, off, none⟩) 1 ([v].flatMap pvC) :=
  ⟨by simp [pvC_len], by omega, fun _ => ⟨b, off, rfl, fun j u hu => h j u (by simpa using hu)⟩⟩
theorem Rd.keepc {w w' : World} {b off : Nat} {xs : List Value} (h : Rd w 7 (some ⟨b, off, none⟩) 1 xs) (hk : ∀ j, j < 7 → w'.cell? ⟨b, off + j, none⟩ = w.cell? ⟨b, off + j, none⟩) : Rd w' 7 (some ⟨b, off, none⟩) 1 xs := by
  refine ⟨h.1, h.2.1, fun h0 => ?_⟩
  obtain ⟨b', off', e, hc⟩ := h.2.2 h0
  cases e
  refine ⟨b, off, rfl, fun j u hu => ?_⟩
  rw [hk j (by have := (List.getElem?_eq_some_iff.1 hu).1; have := h.1; omega)]
  exact hc j u hu
theorem run_neqi_op {P : Program} {o : Oper} {a : Act} {x y : Operand} (k : Int) (ho : o.op = .binOp .neq 3 x y 3) (hx : a.eval x = .int .i64 k) (hy : a.eval y = .int .i64 k) (W : World) : (execOp a.eval o).run P W = .ok (.value (.bool false)) W := by
  unfold execOp
  simp only [ho, hx, hy]
  simp [go_sem]
theorem run_eqi_op {P : Program} {o : Oper} {a : Act} {x y : Operand} (ho : o.op = .binOp .eql 3 x y 3) (k : Int) (hx : a.eval x = .int .i64 k) (hy : a.eval y = .int .i64 k) (W : World) : (execOp a.eval o).run P W = .ok (.value (.bool true)) W := by
  unfold execOp
  simp only [ho, hx, hy]
  simp [go_sem]
theorem run_ownq (w : World) (ty : TypeId) (base : Nat) (hbase : base ≤ w.heap.size) (v : Value) (n : Nat) (ps : List Pk) (h : OwnP w base v n ps) (B : Option Addr) (m d : Nat) (qs : List Pk) (hq : PksAt w B m qs) (hm : 0 < m) (hnm : n + m ≤ 100000) :
    ∃ v' w', (Builtin.append_ #[28, 28] ty #[v, .slice B m d]).run Try.prog w = .ok v' w' ∧ OwnP w' base v' (n + m) (ps ++ qs) ∧ Below base w w' ∧ KeptT w w' ∧ ∀ A c, v = .slice A n c → ∀ b off, A = some ⟨b, off, none⟩ → ∀ j, j < n * 7 → w'.cell? ⟨b, off + j, none⟩ = w.cell? ⟨b, off + j, none⟩ := by
  obtain ⟨i39, hi39, hz39, hs39, hy39⟩ := info_parts info39
  obtain ⟨v', w', hr, h1, h2, h3⟩ := run_ownp w ty base hbase v n ps h B m d qs hq hnm
  refine ⟨v', w', hr, h1, h2, h3, fun A c hv b off hA j hj => ?_⟩
  subst hv hA
  obtain ⟨⟨us, ha, -⟩, -⟩ := h
  obtain ⟨zs, ht, hz⟩ := hq
  obtain ⟨bb, bo, rfl, hc⟩ := ht.1.2.2 hm
  have hnews : ∀ j u, (zs.flatMap pvC)[j]? = some u → w.cell? ((⟨bb, bo, none⟩ : Addr).add j) = some u := fun j u hj => by
    rw [show (⟨bb, bo, none⟩ : Addr).add j = ⟨bb, bo + j, none⟩ from by unfold Addr.add; split <;> simp_all]
    exact hc j u hj
  rcases ha with ⟨rfl, _⟩ | ha
  · omega
  obtain ⟨b0, off0, e0, hold⟩ := (Rd.of_own ha).2.2 (by omega)
  cases e0
  obtain ⟨u, hu⟩ : ∃ q, (us.flatMap pvC)[j]? = some q := ⟨_, List.getElem?_eq_getElem (by have := ha.1; omega)⟩
  rw [hold j u hu]
  rcases ha.2 with ⟨hv, _⟩ | ⟨g, cap, cur, hv, hb, hg, hnc, hcm, _⟩
  · cases hv
  · cases hv
    by_cases hroom : n + m ≤ c
    · obtain ⟨w2, hr2, ho2, _⟩ := run_append_own_spare (P := Try.prog) w base 28 ty 39 i39 7 Try.underlying28 hi39 hs39 b n c _ ha ⟨bb, bo, none⟩ m d _ ht.1.1 hnews (pvs_one _) hroom
      rw [hr] at hr2
      cases hr2
      obtain ⟨b1, off1, e1, hc1⟩ := (Rd.of_own ho2).2.2 (by omega)
      cases e1
      exact hc1 j u (by rw [List.getElem?_append_left (by have := ha.1; omega)]; exact hu)
    · obtain ⟨v2, w2, hr2, ho2, hg2⟩ := run_append_arg_grows (P := Try.prog) w 28 ty 39 i39 _ 7 120 Try.underlying28 hi39 hz39 hs39 hy39 rfl (by omega) ⟨b, 0, none⟩ n c _ ha.1 (fun j u hj => by
        rw [show (⟨b, 0, none⟩ : Addr).add j = ⟨b, 0 + j, none⟩ from by unfold Addr.add; split <;> simp_all]
        exact hold j u hj) ⟨bb, bo, none⟩ m d _ ht.1.1 hnews (by omega) (by unfold maxLen; omega) (by omega)
      rw [hr] at hr2
      cases hr2
      have hk : Below w.heap.size w w' := (Below.refl _ _).grown hg2 (Nat.le_refl _) (fun g e => by cases e)
      obtain ⟨b1, off1, e1, hc1⟩ := ((Rd.of_own ha).below hk).2.2 (by omega)
      cases e1
      exact hc1 j u hu
theorem val_ownq {o : Oper} {a : Act} {W : World} {Q : Exit → Act → World → Prop} {R : Value → World → Prop} (s x : Operand) (hop : o.op = Op.call { callee := Callee.builtin Builtin.append, args := #[s, x], argTypes := #[28, 28] })
    (base : Nat) (hbase : base ≤ W.heap.size) (v : Value) (n : Nat) (ps : List Pk) (hv : a.eval s = v) (h : OwnP W base v n ps) (B : Option Addr) (m d : Nat) (qs : List Pk) (hx : a.eval x = .slice B m d) (hq : PksAt W B m qs) (hm : 0 < m) (hnm : n + m ≤ 100000)
    (hK : ∀ v' w', OwnP w' base v' (n + m) (ps ++ qs) → Below base W w' → KeptT W w' → (∀ A c, v = .slice A n c → ∀ b off, A = some ⟨b, off, none⟩ → ∀ j, j < n * 7 → w'.cell? ⟨b, off + j, none⟩ = W.cell? ⟨b, off + j, none⟩) → R v' w') : Val Try.prog Q o a W R := fun K hK' => by
  obtain ⟨v', w', hr, h2, h3, h4, h5⟩ := run_ownq W o.type base hbase v n ps h B m d qs hq hm hnm
  unfold Oper.wp execOp
  simp only [hop, resolve, invoke, builtin, Sem.run_bind, Sem.run_pure, Result.andThen_ok, List.map_toArray, List.map_cons, List.map_nil, hv, hx, hr]
  exact hK' _ _ (hK v' w' h2 h3 h4 h5)
theorem MadeNetO_any (A : Option Addr) (n c : Nat) (xs : List Rw) (w : World) (h : RawsAt w A n xs) :
    Calls Try.prog 11 #[.slice A n c] w fun e w' => (∃ (A' : Option Addr) (N c' : Nat), e = .returned (.agg #[.slice A' N c']) ∧ N ≤ c' ∧ N ≤ 64 ∧ OwnP w' w.heap.size (.slice A' N c') N ((xs.take 64).map madeP)) ∧ Below w.heap.size w w' := by
  refine (MadeNetQ_any A n c xs w h).mono ?_
  rintro e w' ⟨⟨v, us, rfl, h1, h2, h3⟩, hb⟩
  obtain ⟨A', c', rfl, hc, ht⟩ := h1.trd7
  exact ⟨⟨A', _, c', rfl, hc, by omega, ⟨us, h1, h2⟩, h3⟩, hb⟩
set_option maxRecDepth 100000 in
set_option maxHeartbeats 1000000 in
theorem NetDoubles_any (A : Option Addr) (n c : Nat) (xs : List Rw) (i : UInt8) (full : Bool) (w : World) (hx : RawsAt w A n xs) :
    Calls Try.prog 7 #[.slice A n c, .int .u8 (i.toNat : Int), .bool full] w fun e w' => e = .returned (.bool true) ∧ Below w.heap.size w w' := by
  obtain ⟨i39, hi39, hz39, hs39, hy39⟩ := info_parts info39
  obtain ⟨i30, hi30, hz30, _, _⟩ := info_parts info30
  obtain ⟨i0, hi0, hz0, hz1, hz2⟩ := info_parts info5
  obtain ⟨d39, hd39, hrow39⟩ := und39
  obtain ⟨d30, hd30, hrow30⟩ := und30
  have HB := Lib.hid (Below.refl w.heap.size w)
  have Hx := Lib.hid hx
  clear hx
  go_enter Try.func7, Try.ntmps7
  go_upto_region 2 with fail
  refine (sanity_any w).mono ?_
  rintro e v1 ⟨rfl, hb_⟩
  replace HB := Lib.hid (HB.out.trans (hb_.mono HB.out.size))
  replace Hx := Lib.hid (Hx.out.below hb_)
  clear hb_
  go_upto_region 3 with fail
  obtain ⟨b8, hb8⟩ : ∃ q, q = v1.heap.size := ⟨_, rfl⟩
  have hbw : w.heap.size ≤ b8 := by have := HB.out.size; omega
  have H8 := Lib.hid (Below.refl v1.heap.size v1)
  refine (MadeNetO_any A n c xs v1 Hx.out).mono ?_
  rintro e v2 ⟨⟨A8, N8, c8, rfl, hc8, hN8, hp_⟩, hb_⟩
  replace H8 := Lib.hid (H8.out.trans (hb_.mono H8.out.size))
  replace HB := Lib.hid (HB.out.trans (hb_.mono HB.out.size))
  replace Hx := Lib.hid (Hx.out.below hb_)
  clear hb_
  rw [← hb8] at hp_
  obtain ⟨P, hP⟩ : ∃ q, q = (xs.take 64).map madeP := ⟨_, rfl⟩
  rw [← hP] at hp_
  have HPok := Lib.hid (show ∀ x ∈ P, okP x from fun x hx => (made_ok xs 64 x (hP ▸ hx)).1)
  obtain rfl : P.length = N8 := hp_.len
  have Ho := Lib.hid hp_
  clear hp_ hP
  clear Hx
  have Hb8 := Lib.hid hb8
  clear hb8
  go_upto_region 3 with (first | (refine wpList_alloc0 rfl 30 rfl #[.slice none 0 0] _ i30 hi30 hz30 rfl ?_; simp only [Act.put, List.setIfInBounds_toArray, List.set_cons_succ, List.set_cons_zero]; try simp only [World.size_alloc]) | (refine wpList_store_row rfl 30 (.tmp 8) (.tmp 22) rfl v2.heap.size #[.slice A8 P.length c8] rfl rfl 30 _ (Blk.new v2 _ _) (size30 _ rfl) rfl (net_one _ _ _) ?_; rw [alloc_setRow]))
  obtain ⟨X8, hX8⟩ : ∃ q, q = v2.heap.size := ⟨_, rfl⟩
  obtain ⟨v3, hv3⟩ : ∃ q, q = v2.alloc (.cells #[.slice A8 P.length c8] 30) := ⟨_, rfl⟩
  have hb_ : Below v2.heap.size v2 v3 := by rw [hv3]; exact (Below.refl _ _).alloc (Nat.le_refl _) _
  have HBX8 := Lib.hid (show Blk v3 X8 30 #[.slice A8 P.length c8] by rw [hv3, hX8]; exact Blk.new _ _ _)
  have hlX8 : w.heap.size ≤ X8 := by have := HB.out.size; omega
  rw [← hv3, ← hX8]
  replace H8 := Lib.hid (H8.out.trans (hb_.mono H8.out.size))
  replace Ho := Lib.hid (Ho.out.below hb_ (Nat.le_refl _))
  replace HB := Lib.hid (HB.out.trans (hb_.mono HB.out.size))
  clear hb_ hv3 hX8
  have hb8s : b8 ≤ v3.heap.size := by have := H8.out.size; have := Hb8.out; omega
  clear H8 Hb8
  have cxX8 : v3.cell? ⟨X8, 0, none⟩ = some (.slice A8 P.length c8) := (HBX8.out.cell 0).trans rfl
  by_cases hP0 : P.length = 0
  · have dP : decide ((P.length : Int) = 0) = true := decide_eq_true (by omega)
    have dPn : decide (P.length = 0) = true := decide_eq_true hP0
    have dPb : ((P.length : Int) == 0) = true := by rw [beq_iff_eq]; omega
    have HPe := Lib.hid (List.eq_nil_of_length_eq_zero hP0)
    have HP0 := Lib.hid hP0
    clear hP0
    obtain ⟨A8', c8', e8, -, hk8⟩ := Ho.out.pks
    cases e8
    have Hk8 := Lib.hid hk8
    clear hk8 Ho
    have hiw : IntKind.i64.wrap (i.toNat : Int) = (i.toNat : Int) := by rw [IntKind.wrap_i64]; have := i.toNat_lt; omega
    have Hk := Lib.hid (Blk.range HBX8.out)
    go_upto_region 5 with (refine wpList_load_mid rfl 30 (.tmp 8) rfl X8 0 rfl [.slice A8 P.length c8] d30 Hk.out hd30 hrow30 (by skip; kernel_rfl) ?_)
    clear Hk cxX8
    refine (Double0_any A8 P.length c8 P (i.toNat : Int) P 310 v3 Hk8.out hc8 (by have := HP0.out; omega) (by rw [HPe.out]; rfl)).mono ?_
    rintro e v31 ⟨⟨A9, N9, c9, rfl, hc9, hp_⟩, hb_⟩
    replace HB := Lib.hid (HB.out.trans (hb_.mono HB.out.size))
    replace HBX8 := Lib.hid (HBX8.out.below hb_ HBX8.out.lt)
    clear hb_
    clear hp_
    go_upto_region 5 with (first | (refine wpList_alloc0 rfl 30 rfl #[.slice none 0 0] _ i30 hi30 hz30 rfl ?_; simp only [Act.put, List.setIfInBounds_toArray, List.set_cons_succ, List.set_cons_zero]; try simp only [World.size_alloc]) | (refine wpList_store_row rfl 30 (.tmp 9) (.tmp 32) rfl v31.heap.size #[.slice A9 N9 c9] rfl rfl 30 _ (Blk.new v31 _ _) (size30 _ rfl) rfl (net_one _ _ _) ?_; rw [alloc_setRow]))
    obtain ⟨X9, hX9⟩ : ∃ q, q = v31.heap.size := ⟨_, rfl⟩
    obtain ⟨v32, hv32⟩ : ∃ q, q = v31.alloc (.cells #[.slice A9 N9 c9] 30) := ⟨_, rfl⟩
    have hb_ : Below v31.heap.size v31 v32 := by rw [hv32]; exact (Below.refl _ _).alloc (Nat.le_refl _) _
    have HBX9 := Lib.hid (show Blk v32 X9 30 #[.slice A9 N9 c9] by rw [hv32, hX9]; exact Blk.new _ _ _)
    have hlX9 : w.heap.size ≤ X9 := by have := HB.out.size; omega
    rw [← hv32, ← hX9]
    have hoX8X9 : X8 < X9 := by have := HBX8.out.lt; omega
    replace HB := Lib.hid (HB.out.trans (hb_.mono HB.out.size))
    replace HBX8 := Lib.hid (HBX8.out.below hb_ HBX8.out.lt)
    clear hb_ hv32 hX9
    go_wp2_with fail
    go_ret
    exact ⟨rfl, HB.out⟩
  · have dP : decide ((P.length : Int) = 0) = false := decide_eq_false (by omega)
    have dPn : decide (P.length = 0) = false := decide_eq_false hP0
    have dPb : ((P.length : Int) == 0) = false := by rw [beq_eq_false_iff_ne]; omega
    have hP0i : ¬ (P.length : Int) = 0 := by omega
    go_upto_region 6 with fail
    clear cxX8
    go_loopw [45] (fun _ wr => ∃ (L : List Pk) (A8 : Option Addr) (c8 : Nat), Blk wr X8 30 #[.slice A8 L.length c8] ∧ L.length ≤ c8 ∧ OwnP wr b8 (.slice A8 L.length c8) L.length L ∧ 0 < L.length ∧ L.length ≤ 64 ∧ (∀ x ∈ L, okP x) ∧ b8 ≤ wr.heap.size ∧ Below w.heap.size w wr) (fun _ wr => 64 - lenAt wr X8)
    case atStart => exact ⟨P, _, _, HBX8.out, hc8, Ho.out, by omega, by omega, HPok.out, hb8s, HB.out⟩
    case round =>
      clear HBX8 Ho HPok HB hc8 hP0 dP dPn dPb hP0i hb8s
      obtain ⟨L, A8, c8, hB8, hc8, hown, hL0, hL64, hok, hb8s, hBr⟩ := hrel
      have HB := Lib.hid hBr
      have HBX8 := Lib.hid hB8
      have Ho := Lib.hid hown
      have Hok := Lib.hid hok
      clear hBr hB8 hown hok
      have cxX8 : wr.cell? ⟨X8, 0, none⟩ = some (.slice A8 L.length c8) := (HBX8.out.cell 0).trans rfl
      go_upto_region 6 with fail
      go_cut [45] from 39 to 45 (fun v45 wx => v45 = .bool (full && decide (L.length < 64)) ∧ wx = wr)
      case first =>
        have hl1 : ∀ h : L.length < 64, decide ((L.length : Int) < 64) = true := fun h => decide_eq_true (by omega)
        cases full with
        | false => go_wp2_with fail; go_meet; exact ⟨rfl, rfl⟩
        | true =>
          by_cases h64 : L.length < 64
          · have d64 : decide ((L.length : Int) < 64) = true := decide_eq_true (by omega)
            have d64' : (L.length : Int) < 64 := by omega
            have d64n : decide (L.length < 64) = true := decide_eq_true h64
            go_wp2_with fail
            go_meet
            exact ⟨by simp [h64], rfl⟩
          · have d64 : decide ((L.length : Int) < 64) = false := decide_eq_false (by omega)
            have d64' : ¬ (L.length : Int) < 64 := by omega
            have d64n : decide (L.length < 64) = false := decide_eq_false h64
            go_wp2_with fail
            go_meet
            exact ⟨by simp [h64], rfl⟩
      case' rest => skip
      obtain ⟨rfl, hwc⟩ := hcut
      subst hwc
      obtain ⟨cv, hcv⟩ : ∃ q, q = (full && decide (L.length < 64)) := ⟨_, rfl⟩
      rw [← hcv]
      cases cv with
      | true =>
        have h64 : L.length < 64 := by
          have := hcv.symm
          rw [Bool.and_eq_true, decide_eq_true_eq] at this
          exact this.2
        clear hcv cxX8
        obtain ⟨A8', c8', e8, -, hk8⟩ := Ho.out.pks
        cases e8
        obtain ⟨x, hx⟩ : ∃ q, L[0]? = some q := ⟨_, List.getElem?_eq_getElem hL0⟩
        obtain ⟨cb, co, v, hAe, hrow⟩ := hk8.at_ hx
        subst hAe
        have hxo := Hok.out x (List.mem_of_getElem? hx)
        clear hk8
        have h0n : (0 : Int) < (L.length : Int) := by omega
        have hLne : L ≠ [] := fun e => by rw [e] at hL0; exact absurd hL0 (by simp)
        obtain ⟨SS, hSS⟩ : ∃ SS : World → Prop, SS = fun W => SB 39 b8 wc W ∧ Rd W 7 (some ⟨cb, co, none⟩) 1 ([v].flatMap pvC) := ⟨_, rfl⟩
        have hrd0 : Rd wc 7 (some ⟨cb, co, none⟩) 1 ([v].flatMap pvC) := rd_of_range (by have := (hrow wc (Below.refl _ _)).1; rwa [Nat.zero_mul, Nat.add_zero] at this)
        have hst : SS wc.drew := by rw [hSS]; exact ⟨SB.of_below hb8s ((Below.refl wc.heap.size wc).drew), hrd0.below ((Below.refl wc.heap.size wc).drew)⟩
        have hcell : ∀ W, SS W → W.cell? ⟨X8, 0, none⟩ = some (.slice (some ⟨cb, co, none⟩) L.length c8) := fun W hW => by
          rw [hSS] at hW
          exact ((hW.1.blk HBX8.out (by decide)).cell 0).trans rfl
        have hrowX : ∀ W, SS W → W.rangeAt cb (co + 0 * 7) (pvC v) := fun W hW => by
          rw [hSS] at hW
          exact rd_row pvC_len (by omega) hW.2 rfl
        go_upto_region 7 with fail
        refine wp_region_reads_tailN (S := SS) 9 [0, 1, 2, 3, 4, 5] 3 (by kernel_rfl) (List.take_append_drop _ _) rfl (by kernel_rfl) (by kernel_rfl) (by kernel_rfl) (by decide) (by kernel_rfl) (by kernel_rfl) (fun _ _ d _ _ h => by cases d <;> exact h) (by kernel_rfl) (by kernel_rfl) rfl hst ?_
        refine wpQuiet_val rfl (.pointer (some ⟨X8, 0, none⟩)) (fun W hW => by first | rfl | simp [execOp, go_sem]) ?_
        simp only [Act.put, List.setIfInBounds_toArray, List.set_cons_succ, List.set_cons_zero]
        refine wpQuiet_val rfl (.slice (some ⟨cb, co, none⟩) L.length c8) (fun W hW => by have h0 := hcell W hW; first | rfl | simp [execOp, go_sem, h0]) ?_
        simp only [Act.put, List.setIfInBounds_toArray, List.set_cons_succ, List.set_cons_zero]
        refine wpQuiet_val rfl (.pointer (some ⟨X8, 0, none⟩)) (fun W hW => by first | rfl | simp [execOp, go_sem]) ?_
        simp only [Act.put, List.setIfInBounds_toArray, List.set_cons_succ, List.set_cons_zero]
        refine wpQuiet_val rfl (.slice (some ⟨cb, co, none⟩) L.length c8) (fun W hW => by have h0 := hcell W hW; first | rfl | simp [execOp, go_sem, h0]) ?_
        simp only [Act.put, List.setIfInBounds_toArray, List.set_cons_succ, List.set_cons_zero]
        refine wpQuiet_val rfl (.pointer (some ⟨cb, co + 0 * 7, none⟩)) (fun W hW => by simp [execOp, go_sem, hLne]) ?_
        simp only [Act.put, List.setIfInBounds_toArray, List.set_cons_succ, List.set_cons_zero]
        refine wpQuiet_load_mid_g (by kernel_rfl) 39 (.tmp 50) rfl cb (co + 0 * 7) rfl (pvC v) d39 hrowX hd39 hrow39 (by kernel_rfl) ?_
        simp only [Act.put, List.setIfInBounds_toArray, List.set_cons_succ, List.set_cons_zero]
        refine wpQuiet_nil ?_
        refine wpAnyH_val (i := 6) (by kernel_rfl) (by rfl) (by rfl) ?_
        refine valB (fun W' hb => by rw [hSS] at hst ⊢; exact ⟨hst.1.step hb8s (by rw [World.size_drew]; exact Nat.le_refl _) hb, hst.2.below hb⟩) ?_
        refine val_build1 rfl 28 39 (.tmp 51) rfl (pvC v).toArray i39 _ 7 Try.underlying28 hi39 hz39 hs39 (by omega) (by decide) rfl rfl ?_
        obtain ⟨w5, hw5⟩ : ∃ q, q = wc.drew.alloc (.cells (pvC v).toArray 39) := ⟨_, rfl⟩
        rw [← hw5]
        have hb5 : Below wc.heap.size wc w5 := by rw [hw5]; exact ((Below.refl wc.heap.size wc).drew).alloc (by simp) _
        have hX5 : Blk w5 wc.drew.heap.size 39 (pvC v).toArray := by rw [hw5]; exact Blk.new _ _ _
        have hS5 : SB 39 b8 wc w5 := SB.of_below hb8s hb5
        have hz5 : wc.heap.size ≤ w5.heap.size := hb5.size
        have hq5 : PksAt w5 (some ⟨wc.drew.heap.size, 0, none⟩) 1 [x] := pks_one hX5 ((hrow wc (Below.refl _ _)).2.below hb5)
        simp only [Act.put, List.setIfInBounds_toArray, List.set_cons_succ, List.set_cons_zero]
        refine wpAnyH_val (i := 7) (by kernel_rfl) (by rfl) (by rfl) ?_
        refine val_ownq (.tmp 47) (.tmp 52) rfl b8 (by omega) (.slice (some ⟨cb, co, none⟩) L.length c8) L.length L rfl (Ho.out.below hb5 (Nat.le_refl _)) (some ⟨wc.drew.heap.size, 0, none⟩) 1 1 [x] rfl hq5 (by omega) (by omega) (fun v6 w6 ho6 hb6 hk6 hold6 => ?_)
        have hS6 : SB 39 b8 wc w6 := (KeptIn.trans hS5 (KeptIn.grownT hk6 hb6 fun q hq => by
          rcases hq with hq | ⟨t, cs, ht, hc⟩
          · exact .inl hq
          · exact .inr ⟨t, cs, ht, hS5.blk hc ht⟩))
        refine ⟨by rw [hSS]; exact ⟨hS6, (hrd0.below hb5).keepc fun j hj => hold6 _ _ rfl cb co rfl j (by omega)⟩, ?_⟩
        obtain ⟨A6, c6, rfl, hc6, -⟩ := ho6.pks
        have hz6 : wc.heap.size ≤ w6.heap.size := Nat.le_trans hz5 hb6.size
        simp only [Act.put, List.setIfInBounds_toArray, List.set_cons_succ, List.set_cons_zero]
        refine wpAnyH_val (i := 8) (by kernel_rfl) (by rfl) (by rfl) ?_
        refine valB (fun W' hb => by rw [hSS]; exact ⟨hS6.step hb8s hz6 hb, ((hrd0.below hb5).keepc fun j hj => hold6 _ _ rfl cb co rfl j (by omega)).below hb⟩) ?_
        refine val_run (.pointer (some ⟨X8, 0, none⟩)) (by simp [execOp, go_sem]) ?_
        simp only [Act.put, List.setIfInBounds_toArray, List.set_cons_succ, List.set_cons_zero]
        refine wpAnyH_done (by kernel_rfl) ?_
        have hP6 := hS6.blk HBX8.out (by decide)
        have c6' : w6.cell? ⟨X8, 0, none⟩ = some (.slice (some ⟨cb, co, none⟩) L.length c8) := (hP6.cell 0).trans rfl
        have z6 := hP6.frozen 0
        obtain ⟨w7, hw7⟩ : ∃ q, q = w6.setCell ⟨X8, 0, none⟩ (.slice A6 (L.length + 1) c6) := ⟨_, rfl⟩
        have hP7 : Blk w7 X8 30 #[.slice A6 (L.length + 1) c6] := by rw [hw7]; exact heap_setCell_same w6 _ 0 _ _ _ hP6
        have ho7 : OwnP w7 b8 (.slice A6 (L.length + 1) c6) (L.length + 1) (L ++ [x]) := by rw [hw7]; exact ho6.setNet hP6
        have hb7 : Below w.heap.size w w7 := by
          rw [hw7]
          exact Below.setCell (HB.out.trans ((SB.below hS6 hb8s).mono hbw)) (by omega) _
        have hs7 : b8 ≤ w7.heap.size := by rw [hw7, World.size_setCell]; omega
        have hl7 := lenAt_of hP7
        have hl0 := lenAt_of HBX8.out
        have hok7 : ∀ y ∈ L ++ [x], okP y := fun y hy => by
          rcases List.mem_append.1 hy with h | h
          · exact Hok.out y h
          · rw [List.mem_singleton.1 h]; exact hxo
        have HE := Lib.hid (And.intro hP7 (And.intro ho7 (And.intro hb7 (And.intro hok7 (And.intro hl7 hl0)))))
        have HW7 := Lib.hid hw7
        clear hP7 ho7 hb7 hok7 hl7 hl0 hw7 hP6 hS6 ho6 hb6 hk6 hold6 hq5 hX5 hS5 hb5 hw5 hst hcell hrowX hrd0 hSS hrow hx
        go_wp2_with fail
        rw [← HW7.out]
        obtain ⟨e1, e2, e3, e4, e5, e6⟩ := HE.out
        refine ⟨⟨L ++ [x], A6, c6, by rw [List.length_append]; exact e1, by rw [List.length_append]; exact hc6, by rw [List.length_append]; exact e2, by rw [List.length_append]; simp, by rw [List.length_append]; simp; omega, e4, hs7, e3⟩, ?_⟩
        rw [e5, e6]
        omega
      | false =>
        clear hcv
        obtain ⟨A8', c8', e8, -, hk8⟩ := Ho.out.pks
        cases e8
        have Hl := Lib.hid hk8
        clear hk8 Ho
        obtain ⟨k, hk'⟩ : ∃ q, q = i.toNat % L.length := ⟨_, rfl⟩
        have hk : k < L.length := by rw [hk']; exact Nat.mod_lt _ hL0
        have Hkr := Lib.hid (show (i.toNat : Int) % (L.length : Int) = (k : Int) by rw [hk']; simp)
        have hLn : ¬ (L.length : Int) = 0 := by omega
        have hiw : IntKind.i64.wrap (i.toNat : Int) = (i.toNat : Int) := by rw [IntKind.wrap_i64]; have := i.toNat_lt; omega
        clear hk'
        go_upto_region 9 with fail
        rw [Hkr.out]
        clear hiw Hkr
        obtain ⟨x, hx⟩ : ∃ q, L[k]? = some q := ⟨_, List.getElem?_eq_getElem hk⟩
        have hxo := Hok.out x (List.mem_of_getElem? hx)
        obtain ⟨cb, co, v, hAe, hrow⟩ := Hl.out.at_ hx
        subst hAe
        have Hrow := Lib.hid hrow
        have Hbr := Lib.hid (Below.refl wc.heap.size wc)
        have Hx := Lib.hid hx
        clear hrow hx
        have hk0 : (0 : Int) ≤ (k : Int) := by omega
        have hkL : (k : Int) < (L.length : Int) := by omega
        by_cases h64 : L.length = 64
        · have d64 : decide ((L.length : Int) = 64) = true := decide_eq_true (by omega)
          have d64b : ((L.length : Int) == 64) = true := by rw [beq_iff_eq]; omega
          have d64n : decide (L.length = 64) = true := decide_eq_true h64
          have hdp : doubleP L (k : Int) = (L, 2) := by
            unfold doubleP
            rw [if_pos ⟨hk0, hkL⟩, if_pos (by omega)]
          have Hdp := Lib.hid hdp
          have H64 := Lib.hid h64
          clear hdp h64
          have Hk := Lib.hid (Blk.range HBX8.out)
          clear cxX8
          go_upto_region 10 with (refine wpList_load_mid rfl 30 (.tmp 8) rfl X8 0 rfl [.slice (some ⟨cb, co, none⟩) L.length c8] d30 Hk.out hd30 hrow30 (by skip; kernel_rfl) ?_)
          clear Hk
          refine (Double0_any (some ⟨cb, co, none⟩) L.length c8 L (k : Int) L 2 wc Hl.out hc8 (by omega) Hdp.out).mono ?_
          rintro e v141 ⟨⟨A12, N12, c12, rfl, hc12, hp_⟩, hb_⟩
          replace Hbr := Lib.hid (Hbr.out.trans (hb_.mono Hbr.out.size))
          replace HB := Lib.hid (HB.out.trans (hb_.mono HB.out.size))
          replace HBX8 := Lib.hid (HBX8.out.below hb_ HBX8.out.lt)
          replace Hl := Lib.hid (Hl.out.below hb_)
          clear hb_
          obtain rfl : L.length = N12 := hp_.len
          have Hm := Lib.hid hp_
          clear hp_
          go_upto_region 10 with (first | (refine wpList_alloc0 rfl 30 rfl #[.slice none 0 0] _ i30 hi30 hz30 rfl ?_; simp only [Act.put, List.setIfInBounds_toArray, List.set_cons_succ, List.set_cons_zero]; try simp only [World.size_alloc]) | (refine wpList_store_row rfl 30 (.tmp 12) (.tmp 65) rfl v141.heap.size #[.slice A12 L.length c12] rfl rfl 30 _ (Blk.new v141 _ _) (size30 _ rfl) rfl (net_one _ _ _) ?_; rw [alloc_setRow]))
          obtain ⟨X12, hX12⟩ : ∃ q, q = v141.heap.size := ⟨_, rfl⟩
          obtain ⟨v142, hv142⟩ : ∃ q, q = v141.alloc (.cells #[.slice A12 L.length c12] 30) := ⟨_, rfl⟩
          have hb_ : Below v141.heap.size v141 v142 := by rw [hv142]; exact (Below.refl _ _).alloc (Nat.le_refl _) _
          have HBX12 := Lib.hid (show Blk v142 X12 30 #[.slice A12 L.length c12] by rw [hv142, hX12]; exact Blk.new _ _ _)
          have hlX12 : w.heap.size ≤ X12 := by have := HB.out.size; omega
          rw [← hv142, ← hX12]
          have hoX8X12 : X8 < X12 := by have := HBX8.out.lt; omega
          replace Hbr := Lib.hid (Hbr.out.trans (hb_.mono Hbr.out.size))
          replace HB := Lib.hid (HB.out.trans (hb_.mono HB.out.size))
          replace HBX8 := Lib.hid (HBX8.out.below hb_ HBX8.out.lt)
          replace Hl := Lib.hid (Hl.out.below hb_)
          replace Hm := Lib.hid (Hm.out.below hb_)
          clear hb_ hv142 hX12
          have cxX8 : v142.cell? ⟨X8, 0, none⟩ = some (.slice (some ⟨cb, co, none⟩) L.length c8) := (HBX8.out.cell 0).trans rfl
          have Hk := Lib.hid (Blk.range HBX8.out)
          have Hk2 := Lib.hid (Blk.range HBX12.out)
          go_wp2_with (first | (refine wpList_load_mid_g (by first | rfl | simp [Region.wanted, yielded]) 30 (.tmp 8) rfl X8 0 rfl [.slice (some ⟨cb, co, none⟩) L.length c8] d30 Hk.out hd30 hrow30 (by skip; kernel_rfl) ?_) | (refine wpList_load_mid_g (by first | rfl | simp [Region.wanted, yielded]) 30 (.tmp 12) rfl X12 0 rfl [.slice A12 L.length c12] d30 Hk2.out hd30 hrow30 (by skip; kernel_rfl) ?_))
          clear Hk Hk2
          refine (SameNet_any A12 L.length c12 L (some ⟨cb, co, none⟩) L.length c8 L v142 Hm.out Hl.out Hok.out Hok.out (by omega) (by omega)).mono ?_
          rintro e v143 ⟨rfl, hb_⟩
          replace Hbr := Lib.hid (Hbr.out.trans (hb_.mono Hbr.out.size))
          replace HB := Lib.hid (HB.out.trans (hb_.mono HB.out.size))
          replace HBX8 := Lib.hid (HBX8.out.below hb_ HBX8.out.lt)
          replace Hl := Lib.hid (Hl.out.below hb_)
          replace Hm := Lib.hid (Hm.out.below hb_)
          replace HBX12 := Lib.hid (HBX12.out.below hb_ HBX12.out.lt)
          clear hb_
          rw [decide_eq_true rfl]
          go_wp2_with fail
          go_ret
          exact ⟨rfl, HB.out⟩
        · have d64 : decide ((L.length : Int) = 64) = false := decide_eq_false (by omega)
          have d64b : ((L.length : Int) == 64) = false := by rw [beq_eq_false_iff_ne]; omega
          have d64n : decide (L.length = 64) = false := decide_eq_false h64
          have h64i : ¬ (L.length : Int) = 64 := by omega
          obtain ⟨M, hM⟩ : ∃ q, q = L ++ [x] := ⟨_, rfl⟩
          have hdp : doubleP L (k : Int) = (M, 0) := by
            unfold doubleP
            rw [if_pos ⟨hk0, hkL⟩, if_neg (by omega), Int.toNat_natCast, List.getD_eq_getElem?_getD, Hx.out, hM]
            rfl
          have Hdp := Lib.hid hdp
          have HMl := Lib.hid (show M.length = L.length + 1 by rw [hM, List.length_append]; rfl)
          have HMk := Lib.hid (show M[k]? = some x by rw [hM, List.getElem?_append_left hk]; exact Hx.out)
          have HMn := Lib.hid (show M[L.length]? = some x by rw [hM]; simp)
          have HMt := Lib.hid (show M.take L.length = L by rw [hM, List.take_left' rfl])
          have HMe := Lib.hid (show M.eraseIdx L.length = L by rw [hM]; exact erase_end L x)
          have HMo := Lib.hid (show ∀ y ∈ M, okP y from fun y hy => by rw [hM] at hy; rcases List.mem_append.1 hy with h | h; exact Hok.out y h; rw [List.mem_singleton.1 h]; exact hxo)
          clear hdp hM
          have Hk := Lib.hid (Blk.range HBX8.out)
          clear cxX8
          go_upto_region 10 with (refine wpList_load_mid rfl 30 (.tmp 8) rfl X8 0 rfl [.slice (some ⟨cb, co, none⟩) L.length c8] d30 Hk.out hd30 hrow30 (by skip; kernel_rfl) ?_)
          clear Hk
          refine (Double0_any (some ⟨cb, co, none⟩) L.length c8 L (k : Int) M 0 wc Hl.out hc8 (by omega) Hdp.out).mono ?_
          rintro e v171 ⟨⟨A12, N12, c12, rfl, hc12, hp_⟩, hb_⟩
          replace Hbr := Lib.hid (Hbr.out.trans (hb_.mono Hbr.out.size))
          replace HB := Lib.hid (HB.out.trans (hb_.mono HB.out.size))
          replace HBX8 := Lib.hid (HBX8.out.below hb_ HBX8.out.lt)
          replace Hl := Lib.hid (Hl.out.below hb_)
          clear hb_
          obtain rfl : M.length = N12 := hp_.len
          have Hm := Lib.hid hp_
          clear hp_
          go_upto_region 10 with (first | (refine wpList_alloc0 rfl 30 rfl #[.slice none 0 0] _ i30 hi30 hz30 rfl ?_; simp only [Act.put, List.setIfInBounds_toArray, List.set_cons_succ, List.set_cons_zero]; try simp only [World.size_alloc]) | (refine wpList_store_row rfl 30 (.tmp 12) (.tmp 65) rfl v171.heap.size #[.slice A12 M.length c12] rfl rfl 30 _ (Blk.new v171 _ _) (size30 _ rfl) rfl (net_one _ _ _) ?_; rw [alloc_setRow]))
          obtain ⟨X12, hX12⟩ : ∃ q, q = v171.heap.size := ⟨_, rfl⟩
          obtain ⟨v172, hv172⟩ : ∃ q, q = v171.alloc (.cells #[.slice A12 M.length c12] 30) := ⟨_, rfl⟩
          have hb_ : Below v171.heap.size v171 v172 := by rw [hv172]; exact (Below.refl _ _).alloc (Nat.le_refl _) _
          have HBX12 := Lib.hid (show Blk v172 X12 30 #[.slice A12 M.length c12] by rw [hv172, hX12]; exact Blk.new _ _ _)
          have hlX12 : w.heap.size ≤ X12 := by have := HB.out.size; omega
          rw [← hv172, ← hX12]
          have hoX8X12 : X8 < X12 := by have := HBX8.out.lt; omega
          replace Hbr := Lib.hid (Hbr.out.trans (hb_.mono Hbr.out.size))
          replace HB := Lib.hid (HB.out.trans (hb_.mono HB.out.size))
          replace HBX8 := Lib.hid (HBX8.out.below hb_ HBX8.out.lt)
          replace Hl := Lib.hid (Hl.out.below hb_)
          replace Hm := Lib.hid (Hm.out.below hb_)
          clear hb_ hv172 hX12
          have cxX8 : v172.cell? ⟨X8, 0, none⟩ = some (.slice (some ⟨cb, co, none⟩) L.length c8) := (HBX8.out.cell 0).trans rfl
          go_upto_region 12 with fail
          clear cxX8
          refine wp_region_flowF [81, 82, 83, 84, 85, 86, 87, 88, 89, 90, 91, 92, 93, 94, 95, 96, 97, 98, 99, 100, 101, 102, 103, 104] [(Spec.is (.int .i64 0), false), (Spec.is (.bool false), false), (Spec.is (.bool false), false), (Spec.is (.pointer (some ⟨X12, 0, none⟩)), false), (Spec.is (.slice A12 M.length c12), false), (Spec.is (.int .i64 (M.length : Int)), false), (Spec.is (.pointer (some ⟨X8, 0, none⟩)), false), (Spec.is (.slice (some ⟨cb, co, none⟩) L.length c8), false), (Spec.is (.int .i64 (L.length : Int)), false), (Spec.is (.int .i64 ((L.length + 1 : Nat) : Int)), false), (Spec.is (.bool false), false), (Spec.is (.bool false), false), (Spec.is (.bool false), false), (Spec.is (.pointer (some ⟨X12, 0, none⟩)), false), (Spec.is (.slice A12 M.length c12), false), (Spec.is (.pointer (some ⟨X8, 0, none⟩)), false), (Spec.is (.slice (some ⟨cb, co, none⟩) L.length c8), false), (Spec.is (.int .i64 (L.length : Int)), false), (Spec.is (.slice A12 L.length c12), false), (Spec.is (.agg #[.slice A12 L.length c12]), false), (Spec.is (.agg [.slice (some ⟨cb, co, none⟩) L.length c8].toArray), false), (Spec.is (.bool true), false), (Spec.is (.bool false), false), (Spec.is (.bool false), false)] 153 (by kernel_rfl) rfl (by decide) rfl (by decide) (by kernel_rfl) ?_ ?_
          · refine ⟨?_, ?_, ?_, ?_, ?_, ?_, ?_, ?_, ?_, ?_, ?_, ?_, ?_, ?_, ?_, ?_, ?_, ?_, ?_, ?_, ?_, ?_, ?_, ?_, trivial⟩
            · intro a W hE hb hs
              have h13 : a.eval (.tmp 13) = .int .i64 0 := hb 13 (by decide)
              refine flow0 rfl ?_
              exact val_move _ rfl _ h13 ⟨rfl, trivial⟩
            · intro a W hE hb hs
              have h81 : a.eval (.tmp 81) = .int .i64 0 := hs 0 (by decide)
              refine flow0 rfl ?_
              intro K hK
              unfold Oper.wp execOp
              simp only [h81, BigFrame.eval_const]
              simp [go_sem]
              exact hK _ _ ⟨Below.refl _ _, rfl, trivial⟩
            · intro a W hE hb hs
              have h82 : a.eval (.tmp 82) = .bool false := hs 1 (by decide)
              refine flow0 rfl ?_
              exact val_move _ rfl _ h82 ⟨rfl, trivial⟩
            · intro a W hE hb hs
              have h12 : a.eval (.tmp 12) = .pointer (some ⟨X12, 0, none⟩) := hb 12 (by decide)
              have h83 : a.eval (.tmp 83) = .bool false := hs 2 (by decide)
              refine flowY rfl rfl h83 ?_
              intro K hK
              unfold Oper.wp execOp
              simp only [h12]
              simp [go_sem]
              exact hK _ _ ⟨Below.refl _ _, rfl, trivial⟩
            · intro a W hE hb hs
              have h84 : a.eval (.tmp 84) = .pointer (some ⟨X12, 0, none⟩) := hs 3 (by decide)
              have h83 : a.eval (.tmp 83) = .bool false := hs 2 (by decide)
              refine flowY rfl rfl h83 ?_
              have c0 : W.cell? ⟨X12, 0, none⟩ = some (.slice A12 M.length c12) := ((HBX12.out.below (ext_below hE) HBX12.out.lt).cell 0).trans rfl
              have zc0 := (HBX12.out.below (ext_below hE) HBX12.out.lt).frozen 0
              intro K hK
              unfold Oper.wp execOp
              simp only [h84]
              simp [go_sem, c0]
              exact hK _ _ ⟨Below.refl _ _, rfl, trivial⟩
            · intro a W hE hb hs
              have h85 : a.eval (.tmp 85) = .slice A12 M.length c12 := hs 4 (by decide)
              have h83 : a.eval (.tmp 83) = .bool false := hs 2 (by decide)
              refine flowY rfl rfl h83 ?_
              exact val_len _ 28 39 rfl Try.underlying28 _ _ _ h85 ⟨rfl, trivial⟩
            · intro a W hE hb hs
              have h8 : a.eval (.tmp 8) = .pointer (some ⟨X8, 0, none⟩) := hb 8 (by decide)
              have h83 : a.eval (.tmp 83) = .bool false := hs 2 (by decide)
              refine flowY rfl rfl h83 ?_
              intro K hK
              unfold Oper.wp execOp
              simp only [h8]
              simp [go_sem]
              exact hK _ _ ⟨Below.refl _ _, rfl, trivial⟩
            · intro a W hE hb hs
              have h87 : a.eval (.tmp 87) = .pointer (some ⟨X8, 0, none⟩) := hs 6 (by decide)
              have h83 : a.eval (.tmp 83) = .bool false := hs 2 (by decide)
              refine flowY rfl rfl h83 ?_
              have c0 : W.cell? ⟨X8, 0, none⟩ = some (.slice (some ⟨cb, co, none⟩) L.length c8) := ((HBX8.out.below (ext_below hE) HBX8.out.lt).cell 0).trans rfl
              have zc0 := (HBX8.out.below (ext_below hE) HBX8.out.lt).frozen 0
              intro K hK
              unfold Oper.wp execOp
              simp only [h87]
              simp [go_sem, c0]
              exact hK _ _ ⟨Below.refl _ _, rfl, trivial⟩
            · intro a W hE hb hs
              have h88 : a.eval (.tmp 88) = .slice (some ⟨cb, co, none⟩) L.length c8 := hs 7 (by decide)
              have h83 : a.eval (.tmp 83) = .bool false := hs 2 (by decide)
              refine flowY rfl rfl h83 ?_
              exact val_len _ 28 39 rfl Try.underlying28 _ _ _ h88 ⟨rfl, trivial⟩
            · intro a W hE hb hs
              have h89 : a.eval (.tmp 89) = .int .i64 (L.length : Int) := hs 8 (by decide)
              have h83 : a.eval (.tmp 83) = .bool false := hs 2 (by decide)
              refine flowY rfl rfl h83 ?_
              exact val_run _ (run_succ_op (.tmp 89) rfl L.length (by omega) h89 W) ⟨rfl, trivial⟩
            · intro a W hE hb hs
              have h86 : a.eval (.tmp 86) = .int .i64 (M.length : Int) := hs 5 (by decide)
              have h90 : a.eval (.tmp 90) = .int .i64 ((L.length + 1 : Nat) : Int) := hs 9 (by decide)
              have h83 : a.eval (.tmp 83) = .bool false := hs 2 (by decide)
              refine flowY rfl rfl h83 ?_
              rw [HMl.out] at h86
              exact val_run _ (run_neqi_op _ rfl h86 h90 W) ⟨rfl, trivial⟩
            · intro a W hE hb hs
              have h83 : a.eval (.tmp 83) = .bool false := hs 2 (by decide)
              have h91 : a.eval (.tmp 91) = .bool false := hs 10 (by decide)
              refine flow0 rfl ?_
              exact val_pick _ _ _ rfl false h83 _ (by rw [if_neg (by decide)]; exact h91) ⟨rfl, trivial⟩
            · intro a W hE hb hs
              have h92 : a.eval (.tmp 92) = .bool false := hs 11 (by decide)
              refine flow0 rfl ?_
              exact val_move _ rfl _ h92 ⟨rfl, trivial⟩
            · intro a W hE hb hs
              have h12 : a.eval (.tmp 12) = .pointer (some ⟨X12, 0, none⟩) := hb 12 (by decide)
              have h93 : a.eval (.tmp 93) = .bool false := hs 12 (by decide)
              refine flowY rfl rfl h93 ?_
              intro K hK
              unfold Oper.wp execOp
              simp only [h12]
              simp [go_sem]
              exact hK _ _ ⟨Below.refl _ _, rfl, trivial⟩
            · intro a W hE hb hs
              have h94 : a.eval (.tmp 94) = .pointer (some ⟨X12, 0, none⟩) := hs 13 (by decide)
              have h93 : a.eval (.tmp 93) = .bool false := hs 12 (by decide)
              refine flowY rfl rfl h93 ?_
              have c0 : W.cell? ⟨X12, 0, none⟩ = some (.slice A12 M.length c12) := ((HBX12.out.below (ext_below hE) HBX12.out.lt).cell 0).trans rfl
              have zc0 := (HBX12.out.below (ext_below hE) HBX12.out.lt).frozen 0
              intro K hK
              unfold Oper.wp execOp
              simp only [h94]
              simp [go_sem, c0]
              exact hK _ _ ⟨Below.refl _ _, rfl, trivial⟩
            · intro a W hE hb hs
              have h8 : a.eval (.tmp 8) = .pointer (some ⟨X8, 0, none⟩) := hb 8 (by decide)
              have h93 : a.eval (.tmp 93) = .bool false := hs 12 (by decide)
              refine flowY rfl rfl h93 ?_
              intro K hK
              unfold Oper.wp execOp
              simp only [h8]
              simp [go_sem]
              exact hK _ _ ⟨Below.refl _ _, rfl, trivial⟩
            · intro a W hE hb hs
              have h96 : a.eval (.tmp 96) = .pointer (some ⟨X8, 0, none⟩) := hs 15 (by decide)
              have h93 : a.eval (.tmp 93) = .bool false := hs 12 (by decide)
              refine flowY rfl rfl h93 ?_
              have c0 : W.cell? ⟨X8, 0, none⟩ = some (.slice (some ⟨cb, co, none⟩) L.length c8) := ((HBX8.out.below (ext_below hE) HBX8.out.lt).cell 0).trans rfl
              have zc0 := (HBX8.out.below (ext_below hE) HBX8.out.lt).frozen 0
              intro K hK
              unfold Oper.wp execOp
              simp only [h96]
              simp [go_sem, c0]
              exact hK _ _ ⟨Below.refl _ _, rfl, trivial⟩
            · intro a W hE hb hs
              have h97 : a.eval (.tmp 97) = .slice (some ⟨cb, co, none⟩) L.length c8 := hs 16 (by decide)
              have h93 : a.eval (.tmp 93) = .bool false := hs 12 (by decide)
              refine flowY rfl rfl h93 ?_
              exact val_len _ 28 39 rfl Try.underlying28 _ _ _ h97 ⟨rfl, trivial⟩
            · intro a W hE hb hs
              have h95 : a.eval (.tmp 95) = .slice A12 M.length c12 := hs 14 (by decide)
              have h98 : a.eval (.tmp 98) = .int .i64 (L.length : Int) := hs 17 (by decide)
              have h93 : a.eval (.tmp 93) = .bool false := hs 12 (by decide)
              refine flowY rfl rfl h93 ?_
              exact val_run _ (run_slice_op (.tmp 95) none (some (.tmp 98)) none rfl _ W (by rw [h95]; show (Instr.slice _ _ none (some (a.eval (.tmp 98))) none).run _ W = _; rw [h98]; exact run_pk_h A12 M.length c12 L.length (by have := HMl.out; omega) W)) ⟨rfl, trivial⟩
            · intro a W hE hb hs
              have h99 : a.eval (.tmp 99) = .slice A12 L.length c12 := hs 18 (by decide)
              have h93 : a.eval (.tmp 93) = .bool false := hs 12 (by decide)
              refine flowY rfl rfl h93 ?_
              exact val_build 30 _ rfl [(0, .slice A12 L.length c12)] (by show [(0, a.eval (.tmp 99))] = _; rw [h99]) _ (built30 A12 L.length c12) ⟨rfl, trivial⟩
            · intro a W hE hb hs
              have h8 : a.eval (.tmp 8) = .pointer (some ⟨X8, 0, none⟩) := hb 8 (by decide)
              have h93 : a.eval (.tmp 93) = .bool false := hs 12 (by decide)
              refine flowY rfl rfl h93 ?_
              exact val_load_row 30 _ rfl X8 0 h8 [.slice (some ⟨cb, co, none⟩) L.length c8] d30 (Blk.range (HBX8.out.below (ext_below hE) HBX8.out.lt)) hd30 hrow30 (by skip; kernel_rfl) ⟨rfl, trivial⟩
            · intro a W hE hb hs
              have h100 : a.eval (.tmp 100) = .agg #[.slice A12 L.length c12] := hs 19 (by decide)
              have h101 : a.eval (.tmp 101) = .agg [.slice (some ⟨cb, co, none⟩) L.length c8].toArray := hs 20 (by decide)
              have h93 : a.eval (.tmp 93) = .bool false := hs 12 (by decide)
              refine flowY rfl rfl h93 ?_
              exact val_call 19 _ _ rfl (by kernel_rfl) [.agg #[.slice A12 L.length c12], .agg #[.slice (some ⟨cb, co, none⟩) L.length c8]] (by show [a.eval (.tmp 100), a.eval (.tmp 101)] = _; rw [h100, h101]) ((SameNet_any A12 L.length c12 L (some ⟨cb, co, none⟩) L.length c8 L W (by have h := (Hm.out.below (ext_below hE)).take (i := L.length) (by have := HMl.out; omega); rwa [HMt.out] at h) (Hl.out.below (ext_below hE)) Hok.out Hok.out (by omega) (by omega)).mono (by rintro e W' ⟨rfl, hb⟩; rw [decide_eq_true rfl]; exact ⟨_, rfl, hb, rfl, trivial⟩))
            · intro a W hE hb hs
              have h102 : a.eval (.tmp 102) = .bool true := hs 21 (by decide)
              have h93 : a.eval (.tmp 93) = .bool false := hs 12 (by decide)
              refine flowY rfl rfl h93 ?_
              exact val_not _ _ rfl _ h102 ⟨rfl, trivial⟩
            · intro a W hE hb hs
              have h93 : a.eval (.tmp 93) = .bool false := hs 12 (by decide)
              have h103 : a.eval (.tmp 103) = .bool false := hs 22 (by decide)
              refine flow0 rfl ?_
              exact val_pick _ _ _ rfl false h93 _ (by rw [if_neg (by decide)]; exact h103) ⟨rfl, trivial⟩
          intro f W hb hT hp hd
          have e_ : f 104 = .bool false := hT 23 (by decide)
          simp only [putV, List.foldl_cons, List.foldl_nil, Act.put, List.setIfInBounds_toArray, List.set_cons_succ, List.set_cons_zero, Exit.then]
          rw [e_]
          obtain ⟨v173, rfl⟩ : ∃ q, q = W := ⟨_, rfl⟩
          have hb_ := hb
          clear hb hT hp hd e_
          replace Hbr := Lib.hid (Hbr.out.trans (hb_.mono Hbr.out.size))
          replace HB := Lib.hid (HB.out.trans (hb_.mono HB.out.size))
          replace HBX8 := Lib.hid (HBX8.out.below hb_ HBX8.out.lt)
          replace Hl := Lib.hid (Hl.out.below hb_)
          replace Hm := Lib.hid (Hm.out.below hb_)
          replace HBX12 := Lib.hid (HBX12.out.below hb_ HBX12.out.lt)
          clear hb_
          obtain ⟨E, hE_⟩ : ∃ q, q = M.eraseIdx k := ⟨_, rfl⟩
          have HEl := Lib.hid (show E.length = L.length by rw [hE_, List.length_eraseIdx_of_lt (by have := HMl.out; omega), HMl.out]; rfl)
          have Ht1 := Lib.hid (show takeP M (k : Int) = (x, E, 0) by unfold takeP; rw [if_pos ⟨hk0, by have := HMl.out; omega⟩, Int.toNat_natCast, List.getD_eq_getElem?_getD, HMk.out, hE_]; rfl)
          have Ht2 := Lib.hid (show takeP M (L.length : Int) = (x, L, 0) by unfold takeP; rw [if_pos ⟨by omega, by have := HMl.out; omega⟩, Int.toNat_natCast, List.getD_eq_getElem?_getD, HMn.out, HMe.out]; rfl)
          clear hE_
          have Hk := Lib.hid (Blk.range HBX12.out)
          go_upto_region 15 with (refine wpList_load_mid rfl 30 (.tmp 12) rfl X12 0 rfl [.slice A12 M.length c12] d30 Hk.out hd30 hrow30 (by skip; kernel_rfl) ?_)
          clear Hk
          refine (Take0_any A12 M.length c12 M (k : Int) x E 0 v173 Hm.out hc12 (by have := HMl.out; omega) Ht1.out).mono ?_
          rintro e v174 ⟨⟨vX14, AX15, NX15, cX15, rfl, hcX15, hp_, hq_⟩, hb_⟩
          replace Hbr := Lib.hid (Hbr.out.trans (hb_.mono Hbr.out.size))
          replace HB := Lib.hid (HB.out.trans (hb_.mono HB.out.size))
          replace HBX8 := Lib.hid (HBX8.out.below hb_ HBX8.out.lt)
          replace Hl := Lib.hid (Hl.out.below hb_)
          replace Hm := Lib.hid (Hm.out.below hb_)
          replace HBX12 := Lib.hid (HBX12.out.below hb_ HBX12.out.lt)
          clear hb_
          have HvX14 := Lib.hid hp_
          obtain rfl : E.length = NX15 := hq_.len
          clear hp_ hq_
          obtain ⟨v175a, hv175a⟩ : ∃ v, v = ((v174.alloc (.cells (pvC pv0).toArray 39)).alloc (.cells #[.slice none 0 0] 30)) := ⟨_, rfl⟩
          obtain ⟨X14, hX14⟩ : ∃ v, v = v174.heap.size := ⟨_, rfl⟩
          have hNX14 : Blk (v174.alloc (.cells (pvC pv0).toArray 39)) X14 39 (pvC pv0).toArray := by
            have := Blk.new v174 39 (pvC pv0).toArray
            skip
            rw [hX14]; exact this
          replace hNX14 := hNX14.alloc (.cells #[.slice none 0 0] 30)
          rw [← hv175a] at hNX14
          obtain ⟨X15, hX15⟩ : ∃ v, v = v174.heap.size + 1 := ⟨_, rfl⟩
          have hNX15 : Blk ((v174.alloc (.cells (pvC pv0).toArray 39)).alloc (.cells #[.slice none 0 0] 30)) X15 30 #[.slice none 0 0] := by
            have := Blk.new (v174.alloc (.cells (pvC pv0).toArray 39)) 30 #[.slice none 0 0]
            rw [World.size_alloc] at this
            rw [hX15]; exact this
          rw [← hv175a] at hNX15
          have hbA : Below v174.heap.size v174 v175a := by
            rw [hv175a]; exact ((Below.refl _ _).alloc (by simp) _).alloc (by simp) _
          have HNX14 := Lib.hid hNX14
          have hkX14 := (KeptIn.refl (fun b => b ≠ X14) v175a).setRow (g := X14) (fun h => h rfl) (pvC vX14).toArray
          replace hNX15 := hNX15.keptIn hkX14 (show X15 ≠ X14 by omega)
          replace hNX14 : Blk (v175a.setRow X14 (pvC vX14).toArray) X14 39 (pvC vX14).toArray := setRow_heap _ _ _ _ _ _ HNX14.out
          have HNX15 := Lib.hid hNX15
          have hkX15 := (KeptIn.refl (fun b => b ≠ X15) (v175a.setRow X14 (pvC vX14).toArray)).setRow (g := X15) (fun h => h rfl) #[.slice AX15 E.length cX15]
          replace hNX14 := hNX14.keptIn hkX15 (show X14 ≠ X15 by omega)
          replace hNX15 : Blk ((v175a.setRow X14 (pvC vX14).toArray).setRow X15 #[.slice AX15 E.length cX15]) X15 30 #[.slice AX15 E.length cX15] := setRow_heap _ _ _ _ _ _ HNX15.out
          obtain ⟨v175, hv175⟩ : ∃ v, v = ((v175a.setRow X14 (pvC vX14).toArray).setRow X15 #[.slice AX15 E.length cX15]) := ⟨_, rfl⟩
          have hbB : Below v174.heap.size v174 v175 := by rw [hv175]; exact (Below.setRow (Below.setRow hbA (show v174.heap.size ≤ X14 by omega) _) (show v174.heap.size ≤ X15 by omega) _)
          rw [← hv175] at hNX14
          have HBX14 := Lib.hid hNX14
          rw [← hv175] at hNX15
          have HBX15 := Lib.hid hNX15
          have Hv175a := Lib.hid hv175a
          have Hv175 := Lib.hid hv175
          have HEX14 := Lib.hid hX14
          have HEX15 := Lib.hid hX15
          clear hNX14 hkX14 hNX15 hkX15 hv175a hv175 hbA
          have hlX14 : w.heap.size ≤ X14 := by have := HB.out.size; omega
          have hoX8X14 : X8 < X14 := by have := HBX8.out.lt; omega
          have hoX12X14 : X12 < X14 := by have := HBX12.out.lt; omega
          have hlX15 : w.heap.size ≤ X15 := by have := HB.out.size; omega
          have hoX8X15 : X8 < X15 := by have := HBX8.out.lt; omega
          have hoX12X15 : X12 < X15 := by have := HBX12.out.lt; omega
          clear hX14 hX15
          go_upto_region 15 with (first | (refine wpList_alloc0 rfl 39 rfl (pvC pv0).toArray _ i39 hi39 hz39 rfl ?_; simp only [Act.put, List.setIfInBounds_toArray, List.set_cons_succ, List.set_cons_zero]; try simp only [World.size_alloc]) | (refine wpList_alloc0 rfl 30 rfl #[.slice none 0 0] _ i30 hi30 hz30 rfl ?_; simp only [Act.put, List.setIfInBounds_toArray, List.set_cons_succ, List.set_cons_zero]; try simp only [World.size_alloc]) | (rw [← Hv175a.out, ← HEX15.out, ← HEX14.out]; refine wpList_store_row rfl 39 (.tmp 14) (.tmp 109) rfl X14 (pvC vX14).toArray rfl rfl 39 _ HNX14.out (size39 _ rfl) rfl (pv_row_one _) ?_) | (refine wpList_store_row rfl 30 (.tmp 15) (.tmp 110) rfl X15 #[.slice AX15 E.length cX15] rfl rfl 30 _ HNX15.out (size30 _ rfl) rfl (net_one _ _ _) ?_; rw [← Hv175.out]))
          replace Hbr := Lib.hid (Hbr.out.trans (hbB.mono Hbr.out.size))
          replace HB := Lib.hid (HB.out.trans (hbB.mono HB.out.size))
          replace HBX8 := Lib.hid (HBX8.out.below hbB HBX8.out.lt)
          replace Hl := Lib.hid (Hl.out.below hbB)
          replace Hm := Lib.hid (Hm.out.below hbB)
          replace HBX12 := Lib.hid (HBX12.out.below hbB HBX12.out.lt)
          replace HvX14 := Lib.hid (HvX14.out.below hbB)
          clear hbB
          clear HNX14 HEX14 HNX15 HEX15 Hv175a Hv175
          have Hk := Lib.hid (Blk.range HBX12.out)
          have cxX8 : v175.cell? ⟨X8, 0, none⟩ = some (.slice (some ⟨cb, co, none⟩) L.length c8) := (HBX8.out.cell 0).trans rfl
          go_upto_region 16 with (refine wpList_load_mid rfl 30 (.tmp 12) rfl X12 0 rfl [.slice A12 M.length c12] d30 Hk.out hd30 hrow30 (by skip; kernel_rfl) ?_)
          clear Hk cxX8
          refine (Take0_any A12 M.length c12 M (L.length : Int) x L 0 v175 Hm.out hc12 (by have := HMl.out; omega) Ht2.out).mono ?_
          rintro e v176 ⟨⟨vX17, AX18, NX18, cX18, rfl, hcX18, hp_, hq_⟩, hb_⟩
          replace Hbr := Lib.hid (Hbr.out.trans (hb_.mono Hbr.out.size))
          replace HB := Lib.hid (HB.out.trans (hb_.mono HB.out.size))
          replace HBX8 := Lib.hid (HBX8.out.below hb_ HBX8.out.lt)
          replace Hl := Lib.hid (Hl.out.below hb_)
          replace Hm := Lib.hid (Hm.out.below hb_)
          replace HBX12 := Lib.hid (HBX12.out.below hb_ HBX12.out.lt)
          replace HvX14 := Lib.hid (HvX14.out.below hb_)
          replace HBX14 := Lib.hid (HBX14.out.below hb_ HBX14.out.lt)
          replace HBX15 := Lib.hid (HBX15.out.below hb_ HBX15.out.lt)
          clear hb_
          have HvX17 := Lib.hid hp_
          obtain rfl : L.length = NX18 := hq_.len
          clear hp_ hq_
          obtain ⟨v177a, hv177a⟩ : ∃ v, v = ((v176.alloc (.cells (pvC pv0).toArray 39)).alloc (.cells #[.slice none 0 0] 30)) := ⟨_, rfl⟩
          obtain ⟨X17, hX17⟩ : ∃ v, v = v176.heap.size := ⟨_, rfl⟩
          have hNX17 : Blk (v176.alloc (.cells (pvC pv0).toArray 39)) X17 39 (pvC pv0).toArray := by
            have := Blk.new v176 39 (pvC pv0).toArray
            skip
            rw [hX17]; exact this
          replace hNX17 := hNX17.alloc (.cells #[.slice none 0 0] 30)
          rw [← hv177a] at hNX17
          obtain ⟨X18, hX18⟩ : ∃ v, v = v176.heap.size + 1 := ⟨_, rfl⟩
          have hNX18 : Blk ((v176.alloc (.cells (pvC pv0).toArray 39)).alloc (.cells #[.slice none 0 0] 30)) X18 30 #[.slice none 0 0] := by
            have := Blk.new (v176.alloc (.cells (pvC pv0).toArray 39)) 30 #[.slice none 0 0]
            rw [World.size_alloc] at this
            rw [hX18]; exact this
          rw [← hv177a] at hNX18
          have hbA : Below v176.heap.size v176 v177a := by
            rw [hv177a]; exact ((Below.refl _ _).alloc (by simp) _).alloc (by simp) _
          have HNX17 := Lib.hid hNX17
          have hkX17 := (KeptIn.refl (fun b => b ≠ X17) v177a).setRow (g := X17) (fun h => h rfl) (pvC vX17).toArray
          replace hNX18 := hNX18.keptIn hkX17 (show X18 ≠ X17 by omega)
          replace hNX17 : Blk (v177a.setRow X17 (pvC vX17).toArray) X17 39 (pvC vX17).toArray := setRow_heap _ _ _ _ _ _ HNX17.out
          have HNX18 := Lib.hid hNX18
          have hkX18 := (KeptIn.refl (fun b => b ≠ X18) (v177a.setRow X17 (pvC vX17).toArray)).setRow (g := X18) (fun h => h rfl) #[.slice AX18 L.length cX18]
          replace hNX17 := hNX17.keptIn hkX18 (show X17 ≠ X18 by omega)
          replace hNX18 : Blk ((v177a.setRow X17 (pvC vX17).toArray).setRow X18 #[.slice AX18 L.length cX18]) X18 30 #[.slice AX18 L.length cX18] := setRow_heap _ _ _ _ _ _ HNX18.out
          obtain ⟨v177, hv177⟩ : ∃ v, v = ((v177a.setRow X17 (pvC vX17).toArray).setRow X18 #[.slice AX18 L.length cX18]) := ⟨_, rfl⟩
          have hbB : Below v176.heap.size v176 v177 := by rw [hv177]; exact (Below.setRow (Below.setRow hbA (show v176.heap.size ≤ X17 by omega) _) (show v176.heap.size ≤ X18 by omega) _)
          rw [← hv177] at hNX17
          have HBX17 := Lib.hid hNX17
          rw [← hv177] at hNX18
          have HBX18 := Lib.hid hNX18
          have Hv177a := Lib.hid hv177a
          have Hv177 := Lib.hid hv177
          have HEX17 := Lib.hid hX17
          have HEX18 := Lib.hid hX18
          clear hNX17 hkX17 hNX18 hkX18 hv177a hv177 hbA
          have hlX17 : w.heap.size ≤ X17 := by have := HB.out.size; omega
          have hoX8X17 : X8 < X17 := by have := HBX8.out.lt; omega
          have hoX12X17 : X12 < X17 := by have := HBX12.out.lt; omega
          have hoX14X17 : X14 < X17 := by have := HBX14.out.lt; omega
          have hoX15X17 : X15 < X17 := by have := HBX15.out.lt; omega
          have hlX18 : w.heap.size ≤ X18 := by have := HB.out.size; omega
          have hoX8X18 : X8 < X18 := by have := HBX8.out.lt; omega
          have hoX12X18 : X12 < X18 := by have := HBX12.out.lt; omega
          have hoX14X18 : X14 < X18 := by have := HBX14.out.lt; omega
          have hoX15X18 : X15 < X18 := by have := HBX15.out.lt; omega
          clear hX17 hX18
          go_upto_region 16 with (first | (refine wpList_alloc0 rfl 39 rfl (pvC pv0).toArray _ i39 hi39 hz39 rfl ?_; simp only [Act.put, List.setIfInBounds_toArray, List.set_cons_succ, List.set_cons_zero]; try simp only [World.size_alloc]) | (refine wpList_alloc0 rfl 30 rfl #[.slice none 0 0] _ i30 hi30 hz30 rfl ?_; simp only [Act.put, List.setIfInBounds_toArray, List.set_cons_succ, List.set_cons_zero]; try simp only [World.size_alloc]) | (rw [← Hv177a.out, ← HEX18.out, ← HEX17.out]; refine wpList_store_row rfl 39 (.tmp 17) (.tmp 118) rfl X17 (pvC vX17).toArray rfl rfl 39 _ HNX17.out (size39 _ rfl) rfl (pv_row_one _) ?_) | (refine wpList_store_row rfl 30 (.tmp 18) (.tmp 119) rfl X18 #[.slice AX18 L.length cX18] rfl rfl 30 _ HNX18.out (size30 _ rfl) rfl (net_one _ _ _) ?_; rw [← Hv177.out]))
          replace Hbr := Lib.hid (Hbr.out.trans (hbB.mono Hbr.out.size))
          replace HB := Lib.hid (HB.out.trans (hbB.mono HB.out.size))
          replace HBX8 := Lib.hid (HBX8.out.below hbB HBX8.out.lt)
          replace Hl := Lib.hid (Hl.out.below hbB)
          replace Hm := Lib.hid (Hm.out.below hbB)
          replace HBX12 := Lib.hid (HBX12.out.below hbB HBX12.out.lt)
          replace HvX14 := Lib.hid (HvX14.out.below hbB)
          replace HBX14 := Lib.hid (HBX14.out.below hbB HBX14.out.lt)
          replace HBX15 := Lib.hid (HBX15.out.below hbB HBX15.out.lt)
          replace HvX17 := Lib.hid (HvX17.out.below hbB)
          clear hbB
          clear HNX17 HEX17 HNX18 HEX18 Hv177a Hv177
          go_upto_region 16 with fail
          refine wp_region_flowF [121, 122, 123, 124, 125, 126, 127, 128, 129, 130, 131, 132, 133, 134, 135, 136, 137, 138, 139, 140, 141, 142, 143, 144, 145, 146, 147, 148, 149, 150, 151, 152, 6] [(Spec.is (.bool true), false), (Spec.is (.bool true), false), (Spec.is (.int .i64 0), false), (Spec.is (.bool true), false), (Spec.is (.bool true), false), (Spec.is (.bool true), false), (Spec.is (.int .i64 0), false), (Spec.is (.bool true), false), (Spec.is (.bool true), false), (Spec.is (.bool true), false), (Spec.is (.agg (pvC vX14).toArray), false), (Spec.is (.pointer (some ⟨X8, 0, none⟩)), false), (Spec.is (.slice (some ⟨cb, co, none⟩) L.length c8), false), (Spec.is (.int .i64 (k : Int)), false), (Spec.is (.pointer (some ⟨cb, co + k * 7, none⟩)), false), (Spec.is (.agg (pvC v).toArray), false), (Spec.is (.bool true), false), (Spec.is (.bool true), false), (Spec.is (.bool true), false), (Spec.is (.agg (pvC vX17).toArray), false), (Spec.is (.agg (pvC vX14).toArray), false), (Spec.is (.bool true), false), (Spec.is (.bool true), false), (Spec.is (.bool true), false), (Spec.is (.pointer (some ⟨X15, 0, none⟩)), false), (Spec.is (.slice AX15 E.length cX15), false), (Spec.is (.int .i64 (E.length : Int)), false), (Spec.is (.pointer (some ⟨X8, 0, none⟩)), false), (Spec.is (.slice (some ⟨cb, co, none⟩) L.length c8), false), (Spec.is (.int .i64 (L.length : Int)), false), (Spec.is (.bool true), false), (Spec.is (.bool true), false), (Spec.is (.bool true), false)] 153 (by kernel_rfl) rfl (by decide) rfl (by decide) (by kernel_rfl) ?_ ?_
          · refine ⟨?_, ?_, ?_, ?_, ?_, ?_, ?_, ?_, ?_, ?_, ?_, ?_, ?_, ?_, ?_, ?_, ?_, ?_, ?_, ?_, ?_, ?_, ?_, ?_, ?_, ?_, ?_, ?_, ?_, ?_, ?_, ?_, ?_, trivial⟩
            · intro a W hE hb hs
              have h7 : a.eval (.tmp 7) = .bool true := hb 7 (by decide)
              refine flow0 rfl ?_
              exact val_move _ rfl _ h7 ⟨rfl, trivial⟩
            · intro a W hE hb hs
              have h121 : a.eval (.tmp 121) = .bool true := hs 0 (by decide)
              refine flow0 rfl ?_
              exact val_move _ rfl _ h121 ⟨rfl, trivial⟩
            · intro a W hE hb hs
              have h16 : a.eval (.tmp 16) = .int .i64 0 := hb 16 (by decide)
              have h122 : a.eval (.tmp 122) = .bool true := hs 1 (by decide)
              refine flowY rfl rfl h122 ?_
              exact val_move _ rfl _ h16 ⟨rfl, trivial⟩
            · intro a W hE hb hs
              have h123 : a.eval (.tmp 123) = .int .i64 0 := hs 2 (by decide)
              have h122 : a.eval (.tmp 122) = .bool true := hs 1 (by decide)
              refine flowY rfl rfl h122 ?_
              intro K hK
              unfold Oper.wp execOp
              simp only [h123, BigFrame.eval_const]
              simp [go_sem]
              exact hK _ _ ⟨Below.refl _ _, rfl, trivial⟩
            · intro a W hE hb hs
              have h122 : a.eval (.tmp 122) = .bool true := hs 1 (by decide)
              have h124 : a.eval (.tmp 124) = .bool true := hs 3 (by decide)
              refine flow0 rfl ?_
              exact val_pick _ _ _ rfl true h122 _ (by rw [if_pos rfl]; exact h124) ⟨rfl, trivial⟩
            · intro a W hE hb hs
              have h125 : a.eval (.tmp 125) = .bool true := hs 4 (by decide)
              refine flow0 rfl ?_
              exact val_move _ rfl _ h125 ⟨rfl, trivial⟩
            · intro a W hE hb hs
              have h19 : a.eval (.tmp 19) = .int .i64 0 := hb 19 (by decide)
              have h126 : a.eval (.tmp 126) = .bool true := hs 5 (by decide)
              refine flowY rfl rfl h126 ?_
              exact val_move _ rfl _ h19 ⟨rfl, trivial⟩
            · intro a W hE hb hs
              have h127 : a.eval (.tmp 127) = .int .i64 0 := hs 6 (by decide)
              have h126 : a.eval (.tmp 126) = .bool true := hs 5 (by decide)
              refine flowY rfl rfl h126 ?_
              intro K hK
              unfold Oper.wp execOp
              simp only [h127, BigFrame.eval_const]
              simp [go_sem]
              exact hK _ _ ⟨Below.refl _ _, rfl, trivial⟩
            · intro a W hE hb hs
              have h126 : a.eval (.tmp 126) = .bool true := hs 5 (by decide)
              have h128 : a.eval (.tmp 128) = .bool true := hs 7 (by decide)
              refine flow0 rfl ?_
              exact val_pick _ _ _ rfl true h126 _ (by rw [if_pos rfl]; exact h128) ⟨rfl, trivial⟩
            · intro a W hE hb hs
              have h129 : a.eval (.tmp 129) = .bool true := hs 8 (by decide)
              refine flow0 rfl ?_
              exact val_move _ rfl _ h129 ⟨rfl, trivial⟩
            · intro a W hE hb hs
              have h14 : a.eval (.tmp 14) = .pointer (some ⟨X14, 0, none⟩) := hb 14 (by decide)
              have h130 : a.eval (.tmp 130) = .bool true := hs 9 (by decide)
              refine flowY rfl rfl h130 ?_
              exact val_load_row 39 _ rfl X14 0 h14 (pvC vX14) d39 (Blk.range (HBX14.out.below (ext_below hE) HBX14.out.lt)) hd39 hrow39 (by rw [pvC_len]; kernel_rfl) ⟨rfl, trivial⟩
            · intro a W hE hb hs
              have h8 : a.eval (.tmp 8) = .pointer (some ⟨X8, 0, none⟩) := hb 8 (by decide)
              have h130 : a.eval (.tmp 130) = .bool true := hs 9 (by decide)
              refine flowY rfl rfl h130 ?_
              intro K hK
              unfold Oper.wp execOp
              simp only [h8]
              simp [go_sem]
              exact hK _ _ ⟨Below.refl _ _, rfl, trivial⟩
            · intro a W hE hb hs
              have h132 : a.eval (.tmp 132) = .pointer (some ⟨X8, 0, none⟩) := hs 11 (by decide)
              have h130 : a.eval (.tmp 130) = .bool true := hs 9 (by decide)
              refine flowY rfl rfl h130 ?_
              have c0 : W.cell? ⟨X8, 0, none⟩ = some (.slice (some ⟨cb, co, none⟩) L.length c8) := ((HBX8.out.below (ext_below hE) HBX8.out.lt).cell 0).trans rfl
              have zc0 := (HBX8.out.below (ext_below hE) HBX8.out.lt).frozen 0
              intro K hK
              unfold Oper.wp execOp
              simp only [h132]
              simp [go_sem, c0]
              exact hK _ _ ⟨Below.refl _ _, rfl, trivial⟩
            · intro a W hE hb hs
              have h11 : a.eval (.tmp 11) = .int .i64 (k : Int) := hb 11 (by decide)
              have h130 : a.eval (.tmp 130) = .bool true := hs 9 (by decide)
              refine flowY rfl rfl h130 ?_
              exact val_move _ rfl _ h11 ⟨rfl, trivial⟩
            · intro a W hE hb hs
              have h133 : a.eval (.tmp 133) = .slice (some ⟨cb, co, none⟩) L.length c8 := hs 12 (by decide)
              have h134 : a.eval (.tmp 134) = .int .i64 (k : Int) := hs 13 (by decide)
              have h130 : a.eval (.tmp 130) = .bool true := hs 9 (by decide)
              refine flowY rfl rfl h130 ?_
              intro K hK
              unfold Oper.wp execOp
              simp only [h133, h134]
              simp [go_sem, hk0, hkL]
              exact hK _ _ ⟨Below.refl _ _, rfl, trivial⟩
            · intro a W hE hb hs
              have h135 : a.eval (.tmp 135) = .pointer (some ⟨cb, co + k * 7, none⟩) := hs 14 (by decide)
              have h130 : a.eval (.tmp 130) = .bool true := hs 9 (by decide)
              refine flowY rfl rfl h130 ?_
              exact val_load_row 39 _ rfl cb (co + k * 7) h135 (pvC v) d39 ((Hrow.out W (Hbr.out.trans ((ext_below hE).mono Hbr.out.size))).1) hd39 hrow39 (by rw [pvC_len]; kernel_rfl) ⟨rfl, trivial⟩
            · intro a W hE hb hs
              have h131 : a.eval (.tmp 131) = .agg (pvC vX14).toArray := hs 10 (by decide)
              have h136 : a.eval (.tmp 136) = .agg (pvC v).toArray := hs 15 (by decide)
              have h130 : a.eval (.tmp 130) = .bool true := hs 9 (by decide)
              refine flowY rfl rfl h130 ?_
              exact val_call 18 _ _ rfl (by kernel_rfl) [.agg (pvC vX14).toArray, .agg (pvC v).toArray] (by show [a.eval (.tmp 131), a.eval (.tmp 136)] = _; rw [h131, h136]) ((Same_any vX14 v x x W (HvX14.out.below (ext_below hE)) (Hrow.out W (Hbr.out.trans ((ext_below hE).mono Hbr.out.size))).2 hxo hxo).mono (by rintro e W' ⟨rfl, hb⟩; rw [decide_eq_true rfl]; exact ⟨_, rfl, hb, rfl, trivial⟩))
            · intro a W hE hb hs
              have h130 : a.eval (.tmp 130) = .bool true := hs 9 (by decide)
              have h137 : a.eval (.tmp 137) = .bool true := hs 16 (by decide)
              refine flow0 rfl ?_
              exact val_pick _ _ _ rfl true h130 _ (by rw [if_pos rfl]; exact h137) ⟨rfl, trivial⟩
            · intro a W hE hb hs
              have h138 : a.eval (.tmp 138) = .bool true := hs 17 (by decide)
              refine flow0 rfl ?_
              exact val_move _ rfl _ h138 ⟨rfl, trivial⟩
            · intro a W hE hb hs
              have h17 : a.eval (.tmp 17) = .pointer (some ⟨X17, 0, none⟩) := hb 17 (by decide)
              have h139 : a.eval (.tmp 139) = .bool true := hs 18 (by decide)
              refine flowY rfl rfl h139 ?_
              exact val_load_row 39 _ rfl X17 0 h17 (pvC vX17) d39 (Blk.range (HBX17.out.below (ext_below hE) HBX17.out.lt)) hd39 hrow39 (by rw [pvC_len]; kernel_rfl) ⟨rfl, trivial⟩
            · intro a W hE hb hs
              have h14 : a.eval (.tmp 14) = .pointer (some ⟨X14, 0, none⟩) := hb 14 (by decide)
              have h139 : a.eval (.tmp 139) = .bool true := hs 18 (by decide)
              refine flowY rfl rfl h139 ?_
              exact val_load_row 39 _ rfl X14 0 h14 (pvC vX14) d39 (Blk.range (HBX14.out.below (ext_below hE) HBX14.out.lt)) hd39 hrow39 (by rw [pvC_len]; kernel_rfl) ⟨rfl, trivial⟩
            · intro a W hE hb hs
              have h140 : a.eval (.tmp 140) = .agg (pvC vX17).toArray := hs 19 (by decide)
              have h141 : a.eval (.tmp 141) = .agg (pvC vX14).toArray := hs 20 (by decide)
              have h139 : a.eval (.tmp 139) = .bool true := hs 18 (by decide)
              refine flowY rfl rfl h139 ?_
              exact val_call 18 _ _ rfl (by kernel_rfl) [.agg (pvC vX17).toArray, .agg (pvC vX14).toArray] (by show [a.eval (.tmp 140), a.eval (.tmp 141)] = _; rw [h140, h141]) ((Same_any vX17 vX14 x x W (HvX17.out.below (ext_below hE)) (HvX14.out.below (ext_below hE)) hxo hxo).mono (by rintro e W' ⟨rfl, hb⟩; rw [decide_eq_true rfl]; exact ⟨_, rfl, hb, rfl, trivial⟩))
            · intro a W hE hb hs
              have h139 : a.eval (.tmp 139) = .bool true := hs 18 (by decide)
              have h142 : a.eval (.tmp 142) = .bool true := hs 21 (by decide)
              refine flow0 rfl ?_
              exact val_pick _ _ _ rfl true h139 _ (by rw [if_pos rfl]; exact h142) ⟨rfl, trivial⟩
            · intro a W hE hb hs
              have h143 : a.eval (.tmp 143) = .bool true := hs 22 (by decide)
              refine flow0 rfl ?_
              exact val_move _ rfl _ h143 ⟨rfl, trivial⟩
            · intro a W hE hb hs
              have h15 : a.eval (.tmp 15) = .pointer (some ⟨X15, 0, none⟩) := hb 15 (by decide)
              have h144 : a.eval (.tmp 144) = .bool true := hs 23 (by decide)
              refine flowY rfl rfl h144 ?_
              intro K hK
              unfold Oper.wp execOp
              simp only [h15]
              simp [go_sem]
              exact hK _ _ ⟨Below.refl _ _, rfl, trivial⟩
            · intro a W hE hb hs
              have h145 : a.eval (.tmp 145) = .pointer (some ⟨X15, 0, none⟩) := hs 24 (by decide)
              have h144 : a.eval (.tmp 144) = .bool true := hs 23 (by decide)
              refine flowY rfl rfl h144 ?_
              have c0 : W.cell? ⟨X15, 0, none⟩ = some (.slice AX15 E.length cX15) := ((HBX15.out.below (ext_below hE) HBX15.out.lt).cell 0).trans rfl
              have zc0 := (HBX15.out.below (ext_below hE) HBX15.out.lt).frozen 0
              intro K hK
              unfold Oper.wp execOp
              simp only [h145]
              simp [go_sem, c0]
              exact hK _ _ ⟨Below.refl _ _, rfl, trivial⟩
            · intro a W hE hb hs
              have h146 : a.eval (.tmp 146) = .slice AX15 E.length cX15 := hs 25 (by decide)
              have h144 : a.eval (.tmp 144) = .bool true := hs 23 (by decide)
              refine flowY rfl rfl h144 ?_
              exact val_len _ 28 39 rfl Try.underlying28 _ _ _ h146 ⟨rfl, trivial⟩
            · intro a W hE hb hs
              have h8 : a.eval (.tmp 8) = .pointer (some ⟨X8, 0, none⟩) := hb 8 (by decide)
              have h144 : a.eval (.tmp 144) = .bool true := hs 23 (by decide)
              refine flowY rfl rfl h144 ?_
              intro K hK
              unfold Oper.wp execOp
              simp only [h8]
              simp [go_sem]
              exact hK _ _ ⟨Below.refl _ _, rfl, trivial⟩
            · intro a W hE hb hs
              have h148 : a.eval (.tmp 148) = .pointer (some ⟨X8, 0, none⟩) := hs 27 (by decide)
              have h144 : a.eval (.tmp 144) = .bool true := hs 23 (by decide)
              refine flowY rfl rfl h144 ?_
              have c0 : W.cell? ⟨X8, 0, none⟩ = some (.slice (some ⟨cb, co, none⟩) L.length c8) := ((HBX8.out.below (ext_below hE) HBX8.out.lt).cell 0).trans rfl
              have zc0 := (HBX8.out.below (ext_below hE) HBX8.out.lt).frozen 0
              intro K hK
              unfold Oper.wp execOp
              simp only [h148]
              simp [go_sem, c0]
              exact hK _ _ ⟨Below.refl _ _, rfl, trivial⟩
            · intro a W hE hb hs
              have h149 : a.eval (.tmp 149) = .slice (some ⟨cb, co, none⟩) L.length c8 := hs 28 (by decide)
              have h144 : a.eval (.tmp 144) = .bool true := hs 23 (by decide)
              refine flowY rfl rfl h144 ?_
              exact val_len _ 28 39 rfl Try.underlying28 _ _ _ h149 ⟨rfl, trivial⟩
            · intro a W hE hb hs
              have h147 : a.eval (.tmp 147) = .int .i64 (E.length : Int) := hs 26 (by decide)
              have h150 : a.eval (.tmp 150) = .int .i64 (L.length : Int) := hs 29 (by decide)
              have h144 : a.eval (.tmp 144) = .bool true := hs 23 (by decide)
              refine flowY rfl rfl h144 ?_
              rw [HEl.out] at h147
              exact val_run _ (run_eqi_op rfl _ h147 h150 W) ⟨rfl, trivial⟩
            · intro a W hE hb hs
              have h144 : a.eval (.tmp 144) = .bool true := hs 23 (by decide)
              have h151 : a.eval (.tmp 151) = .bool true := hs 30 (by decide)
              refine flow0 rfl ?_
              exact val_pick _ _ _ rfl true h144 _ (by rw [if_pos rfl]; exact h151) ⟨rfl, trivial⟩
            · intro a W hE hb hs
              have h152 : a.eval (.tmp 152) = .bool true := hs 31 (by decide)
              refine flow0 rfl ?_
              exact val_assign _ rfl _ h152 ⟨rfl, trivial⟩
          intro f W hb hT hp hd
          have e6 : f 6 = .bool true := hT 32 (by decide)
          simp only [putV, List.foldl_cons, List.foldl_nil, Act.put, List.setIfInBounds_toArray, List.set_cons_succ, List.set_cons_zero, Exit.then]
          rw [e6]
          have HE := Lib.hid (HB.out.trans (hb.mono HB.out.size))
          clear hb hT hp hd e6
          go_wp2_with fail
          go_ret
          exact ⟨rfl, HE.out⟩
end Go.Proofs.Yteofgkdpknaapaa
