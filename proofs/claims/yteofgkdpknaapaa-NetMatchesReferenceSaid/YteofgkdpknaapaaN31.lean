/- Package net: the reference's MadeNet. -/
import Derived.Test.YteofgkdpknaapaaN30
namespace Go.Proofs.Yteofgkdpknaapaa
open Go.RowKit Go.Sort

/-- What a packet is made of, with its slice. -/
structure Wv where
  (x : Rw) (D : Option Addr) (n c : Nat)
def wvC (v : Wv) : List Value := rwC v.x v.D v.n v.c
theorem wvC_len (v : Wv) : (wvC v).length = 5 := rfl
def WvOk (w : World) (v : Wv) : Prop := Rd w 1 v.D v.n (v.x.data.map byteV) ∧ v.n ≤ v.c
theorem WvOk.below {w w' : World} {v : Wv} (h : WvOk w v) (hb : Below w.heap.size w w') : WvOk w' v := ⟨h.1.below hb, h.2⟩
/-- A list of them in a slice. -/
def RawsAt (w : World) (A : Option Addr) (n : Nat) (xs : List Rw) : Prop := ∃ vs : List Wv, Rd w 5 A n (vs.flatMap wvC) ∧ vs.map (·.x) = xs ∧ ∀ v ∈ vs, WvOk w v
theorem RawsAt.below {w w' : World} {A : Option Addr} {n : Nat} {xs : List Rw} (h : RawsAt w A n xs) (hb : Below w.heap.size w w') : RawsAt w' A n xs := by
  obtain ⟨vs, h1, h2, h3⟩ := h
  exact ⟨vs, h1.below hb, h2, fun v hv => (h3 v hv).below hb⟩
theorem RawsAt.len {w : World} {A : Option Addr} {n : Nat} {xs : List Rw} (h : RawsAt w A n xs) : xs.length = n := by
  obtain ⟨vs, h1, h2, h3⟩ := h
  rw [← h2, List.length_map]
  exact h1.lenf wvC_len (by omega)
/-- What MadeNet answers: a net whose slice is its own. -/
def MadeQ (N : Nat) (ps : List Pk) (w : World) (e : Ending) (w' : World) : Prop :=
  (∃ (v : Value) (us : List Pv), e = .returned (.agg #[v]) ∧ AppZ w' w.heap.size 39 7 v N (us.flatMap pvC) ∧ PvsOk w' us ps ∧ ∀ g, v.ownBlock = some g → ∃ cur, Blk w' g 39 cur) ∧ Below w.heap.size w w'
theorem pkn_store {w w3 : World} {R N c b3 : Nat} {A : Option Addr} {v0 : Value} {us : List Pv} {qs : List Pk} (hb : Below w.heap.size w w3) (hR : w.heap.size ≤ R) (hRb : R < b3) (hN : Blk w3 R 30 #[v0]) (ha : AppZ w3 b3 39 7 (.slice A N c) N (us.flatMap pvC)) (hp : PvsOk w3 us qs) (how : ∀ g, (Value.slice A N c).ownBlock = some g → ∃ cur, Blk w3 g 39 cur) :
    Blk (w3.setRow R #[.slice A N c]) R 30 #[.slice A N c] ∧ MadeQ N qs w (.returned (netV A N c)) (w3.setRow R #[.slice A N c]) := by
  have hk4 : KeptIn (fun q => q ≠ R) w3 (w3.setRow R #[.slice A N c]) := (KeptIn.refl (fun q => q ≠ R) w3).setRow (g := R) (fun hk => hk rfl) _
  have hs : ∀ t, t ≠ 30 → ∀ b cur, Blk w3 b t cur → b ≠ R := fun t h b cur hb => hb.ne hN h
  refine ⟨setRow_heap _ _ _ _ _ _ hN, ⟨.slice A N c, us, rfl, (ha.kept (KeptIn.grownBut hk4) ?_).mono (by omega), hp.keptIn hk4 (hs _ (by decide)) (hs _ (by decide)) (hs _ (by decide)), fun g e => ?_⟩, hb.trans (KeptIn.below hk4 fun q hq => by omega)⟩
  · refine .inr fun e => ?_
    have := (ha.lt R e).1
    omega
  · obtain ⟨cur, hc⟩ := how g e
    exact ⟨cur, hc.keptIn hk4 (hc.ne hN (by decide))⟩
theorem built30z : Try.prog.built 30 [] = some #[.slice none 0 0] := by kernel_rfl
set_option maxRecDepth 100000 in
set_option maxHeartbeats 2000000 in
theorem MadeNetQ_any (A : Option Addr) (n c : Nat) (xs : List Rw) (w : World) (h : RawsAt w A n xs) :
    Calls Try.prog 11 #[.slice A n c] w (MadeQ (min n 64) ((xs.take 64).map madeP) w) := by
  obtain ⟨i39, hi39, hz39, hs39, hy39⟩ := info_parts info39
  obtain ⟨d30, hd30, hrow30⟩ := und30
  obtain ⟨d55, hd55, hrow55⟩ := und55
  have hxl := h.len
  obtain ⟨vs, hr, hvx, hvo⟩ := h
  have hvl := hr.lenf wvC_len (by omega)
  obtain ⟨w3, hw3⟩ : ∃ q, q = (w.alloc (.cells #[.slice none 0 0] 30)).alloc (.cells #[.slice none 0 0] 30) := ⟨_, rfl⟩
  have hb3 : Below w.heap.size w w3 := by rw [hw3]; exact ((Below.refl _ _).alloc (Nat.le_refl _) _).alloc (by rw [World.size_alloc]; omega) _
  have hR3 : Blk w3 w.heap.size 30 #[.slice none 0 0] := by rw [hw3]; exact (Blk.new w _ _).alloc _
  have hN3 : Blk w3 (w.heap.size + 1) 30 #[.slice none 0 0] := by
    rw [hw3]
    have h := Blk.new (w.alloc (.cells #[.slice none 0 0] 30)) 30 #[.slice none 0 0]
    rwa [World.size_alloc] at h
  have hsz3 : w3.heap.size = w.heap.size + 1 + 1 := by rw [hw3, World.size_alloc, World.size_alloc]
  have HW3 := Lib.hid hw3
  have HB3 := Lib.hid hb3
  have HR3 := Lib.hid hR3
  have HN3 := Lib.hid hN3
  have hold0 : ∀ (j : Nat) (v : Wv) (cb co : Nat), A = some ⟨cb, co, none⟩ → vs[j]? = some v → ∀ W, Below w.heap.size w W → W.rangeAt cb (co + j * 5) (wvC v) ∧ WvOk W v := fun j v cb co e hv W hW => ⟨rd_row wvC_len (by omega) (e ▸ hr.below hW) hv, (hvo v (List.mem_of_getElem? hv)).below hW⟩
  have Hold := Lib.hid hold0
  have Hr := Lib.hid (hr.below hb3)
  have Hvo := Lib.hid (fun v hv => (hvo v hv).below hb3 : ∀ v ∈ vs, WvOk w3 v)
  have Hvx := Lib.hid hvx
  clear hw3 hb3 hR3 hN3 hr hvo hvx hold0
  go_enter Try.func11, Try.ntmps11
  go_upto_region 3 with fail
  rw [← HW3.out]
  go_loopw [4] (fun v4 wr => ∃ j : Nat, v4 = .int .i64 (j : Int) ∧ j ≤ n ∧ j ≤ 64 ∧ (∃ (C' : Option Addr) (k' : Nat) (us : List Pv), Blk wr (w.heap.size + 1) 30 #[.slice C' j k'] ∧ AppZ wr w3.heap.size 39 7 (.slice C' j k') j (us.flatMap pvC) ∧ PvsOk wr us ((xs.take j).map madeP) ∧ (∀ g, (Value.slice C' j k').ownBlock = some g → ∃ cur, Blk wr g 39 cur)) ∧ KeptIn (fun q => q ≠ w.heap.size + 1 ∧ q < w3.heap.size) w3 wr) (fun v4 _ => n - (intOf v4).toNat)
  case atStart => exact ⟨0, rfl, Nat.zero_le _, Nat.zero_le _, ⟨none, 0, [], HN3.out, AppZ.nil _, PvsOk.nil _, fun g e => by cases e⟩, KeptIn.refl _ _⟩
  case round =>
    obtain ⟨j, rfl, hj, hj64, ⟨C', k', us, hS, happ, hks, how⟩, hK⟩ := hrel
    have hszr : w3.heap.size ≤ wr.heap.size := hK.size
    have hRr := HR3.out.keptIn hK ⟨by omega, by omega⟩
    have hfin : (¬ j < n ∨ ¬ j < 64) → Blk (wr.setRow w.heap.size #[.slice C' j k']) w.heap.size 30 #[.slice C' j k'] ∧ MadeQ (min n 64) ((xs.take 64).map madeP) w (.returned (netV C' j k')) (wr.setRow w.heap.size #[.slice C' j k']) := fun hh => by
      have hjm : j = min n 64 := by omega
      have htk : xs.take j = xs.take 64 := by
        rw [hjm]
        rcases Nat.le_total n 64 with h | h
        · rw [Nat.min_eq_left h, List.take_of_length_le (by omega), List.take_of_length_le (by omega)]
        · rw [Nat.min_eq_right h]
      rw [htk] at hks
      have := pkn_store (HB3.out.trans (KeptIn.below hK fun q hq => ⟨by omega, by omega⟩)) (Nat.le_refl _) (by omega) hRr happ hks how
      rw [← hjm]
      exact this
    by_cases hlt : j < n
    · have dj : decide ((j : Int) < (n : Int)) = true := decide_eq_true (by omega)
      have hjn : (j : Int) < (n : Int) := by omega
      have hj0 : (0 : Int) ≤ (j : Int) := by omega
      by_cases h64 : j < 64
      · have dk : decide ((j : Int) < 64) = true := decide_eq_true (by omega)
        have hjk : (j : Int) < 64 := by omega
        obtain ⟨v, hv⟩ : ∃ q, vs[j]? = some q := ⟨_, List.getElem?_eq_getElem (by omega)⟩
        have hbw : ∀ W, Below wr.heap.size wr W → Below w.heap.size w3 W := fun W hW => (KeptIn.below hK fun q hq => ⟨by omega, by omega⟩).trans (hW.mono (by omega))
        have hvm := List.mem_of_getElem? hv
        have hxj : xs[j]? = some v.x := by rw [← Hvx.out, List.getElem?_map, hv]; rfl
        have htkj : (xs.take (j + 1)).map madeP = (xs.take j).map madeP ++ [madeP v.x] := by rw [List.take_add_one, hxj, List.map_append]; rfl
        obtain ⟨cb, co, hAe, hjunk⟩ := Hr.out.2.2 (by omega)
        clear hjunk
        subst hAe
        have hvr : ∀ W, Below w.heap.size w3 W → W.rangeAt cb (co + j * 5) (wvC v) ∧ WvOk W v := fun W hW => Hold.out j v cb co rfl hv W (HB3.out.trans hW)
        have hvd : ∀ W, Below wr.heap.size wr W → WvOk W v := fun W hW => (hvr W (hbw W hW)).2
        obtain ⟨SS, hSS⟩ : ∃ SS : World → Prop, SS = SB 39 w3.heap.size wr := ⟨_, rfl⟩
        have hst : SS wr.drew := by rw [hSS]; exact SB.of_below hszr ((Below.refl wr.heap.size wr).drew)
        have hcell : ∀ W, SS W → W.cell? ⟨w.heap.size + 1, 0, none⟩ = some (.slice C' j k') := fun W hW => by
          rw [hSS] at hW
          exact ((hW.blk hS (by decide)).cell 0).trans rfl
        have hrowX : ∀ W, SS W → W.rangeAt cb (co + j * 5) (rwC v.x v.D v.n v.c) := fun W hW => by
          rw [hSS] at hW
          exact (hvr W ((KeptIn.below hK fun q hq => ⟨by omega, by omega⟩).trans ((hW.below hszr).mono (by omega)))).1
        clear hfin hRr
        go_upto_region 5 with fail
        refine wp_region_reads_tailN (S := SS) 10 [0, 1, 2, 3, 4, 5] 4 (by kernel_rfl) (List.take_append_drop _ _) rfl (by kernel_rfl) (by kernel_rfl) (by kernel_rfl) (by decide) (by kernel_rfl) (by kernel_rfl) (fun _ _ d _ _ h => by cases d <;> exact h) (by kernel_rfl) (by kernel_rfl) rfl hst ?_
        refine wpQuiet_val rfl (.pointer (some ⟨w.heap.size + 1, 0, none⟩)) (fun W hW => by first | rfl | simp [execOp, go_sem]) ?_
        simp only [Act.put, List.setIfInBounds_toArray, List.set_cons_succ, List.set_cons_zero]
        refine wpQuiet_val rfl (.slice C' j k') (fun W hW => by have h0 := hcell W hW; first | rfl | simp [execOp, go_sem, h0]) ?_
        simp only [Act.put, List.setIfInBounds_toArray, List.set_cons_succ, List.set_cons_zero]
        refine wpQuiet_val rfl (.slice (some ⟨cb, co, none⟩) n c) (fun W hW => by first | rfl | simp [execOp, go_sem]) ?_
        simp only [Act.put, List.setIfInBounds_toArray, List.set_cons_succ, List.set_cons_zero]
        refine wpQuiet_val rfl (.int .i64 (j : Int)) (fun W hW => by first | rfl | simp [execOp, go_sem]) ?_
        simp only [Act.put, List.setIfInBounds_toArray, List.set_cons_succ, List.set_cons_zero]
        refine wpQuiet_val rfl (.pointer (some ⟨cb, co + j * 5, none⟩)) (fun W hW => by simp [execOp, go_sem, hj0, hjn]) ?_
        simp only [Act.put, List.setIfInBounds_toArray, List.set_cons_succ, List.set_cons_zero]
        refine wpQuiet_load_mid_g (by kernel_rfl) 55 (.tmp 20) rfl cb (co + j * 5) rfl (rwC v.x v.D v.n v.c) d55 hrowX hd55 hrow55 (by kernel_rfl) ?_
        simp only [Act.put, List.setIfInBounds_toArray, List.set_cons_succ, List.set_cons_zero]
        refine wpQuiet_nil ?_
        refine wpAnyH_val (i := 6) (by kernel_rfl) (by rfl) (by rfl) ?_
        refine val_callp 25 _ _ rfl (by kernel_rfl) [.agg (rwC v.x v.D v.n v.c).toArray] rfl ((Made_any v.x v.D v.n v.c wr.drew (hvd _ ((Below.refl wr.heap.size wr).drew)).1 (hvd _ ((Below.refl wr.heap.size wr).drew)).2).mono ?_)
        rintro e w11 ⟨⟨u, rfl, hu⟩, hb11⟩
        left
        replace hb11 : Below wr.heap.size wr w11 := ((Below.refl wr.heap.size wr).drew).trans hb11
        have hS11 : SS w11 := by rw [hSS]; exact SB.of_below hszr hb11
        refine ⟨_, rfl, hS11, ?_⟩
        simp only [Act.put, List.setIfInBounds_toArray, List.set_cons_succ, List.set_cons_zero]
        refine wpAnyH_val (i := 7) (by kernel_rfl) (by rfl) (by rfl) ?_
        refine valB (fun W' hb => by rw [hSS] at hS11 ⊢; exact hS11.step hszr hb11.size hb) ?_
        refine val_build1 rfl 28 39 (.tmp 22) rfl (pvC u).toArray i39 _ 7 Try.underlying28 hi39 hz39 hs39 (by omega) (by decide) rfl rfl ?_
        obtain ⟨w13, hw13⟩ : ∃ q, q = w11.alloc (.cells (pvC u).toArray 39) := ⟨_, rfl⟩
        rw [← hw13]
        have hb13 : Below w11.heap.size w11 w13 := by rw [hw13]; exact (Below.refl _ _).alloc (Nat.le_refl _) _
        have hX13 : Blk w13 w11.heap.size 39 (pvC u).toArray := by rw [hw13]; exact Blk.new _ _ _
        have hS13 : SS w13 := by rw [hSS] at hS11 ⊢; exact hS11.step hszr hb11.size hb13
        have hb313 : Below wr.heap.size wr w13 := hb11.trans (hb13.mono hb11.size)
        have ha13 : AppZ w13 w3.heap.size 39 7 (.slice C' j k') j (us.flatMap pvC) := happ.below hb313 (Nat.le_refl _)
        have how13 : ∀ g, (Value.slice C' j k').ownBlock = some g → ∃ cur, Blk w13 g 39 cur := fun g e => by obtain ⟨cur, hc⟩ := how g e; exact ⟨cur, hc.below hb313 hc.lt⟩
        have hz13 : wr.heap.size ≤ w13.heap.size := hb313.size
        simp only [Act.put, List.setIfInBounds_toArray, List.set_cons_succ, List.set_cons_zero]
        refine wpAnyH_val (i := 8) (by kernel_rfl) (by rfl) (by rfl) ?_
        refine val_appz rfl (.tmp 17) (.tmp 23) 28 rfl 39 i39 _ 7 120 Try.underlying28 hi39 hz39 hs39 hy39 rfl (by omega) w3.heap.size (by omega) (.slice C' j k') j (us.flatMap pvC) rfl ha13 (some ⟨w11.heap.size, 0, none⟩) 1 1 ([u].flatMap pvC) rfl (rd7_one hX13) (pvs_one _) (by unfold maxLen; omega) (by omega) (fun v14 w14 ha14 hg14 => ?_)
        have hS14 : SS w14 := by
          rw [hSS] at hS13 ⊢
          exact hS13.grown' hszr hz13 (fun g e => (ha13.lt g e).1) how13 hg14
        have hz14 : wr.heap.size ≤ w14.heap.size := Nat.le_trans hz13 hg14.size
        refine ⟨hS14, ?_⟩
        obtain ⟨C14, k14, rfl, hk14, _⟩ := ha14.rd
        simp only [Act.put, List.setIfInBounds_toArray, List.set_cons_succ, List.set_cons_zero]
        refine wpAnyH_val (i := 9) (by kernel_rfl) (by rfl) (by rfl) ?_
        refine valB (fun W' hb => by rw [hSS] at hS14 ⊢; exact hS14.step hszr hz14 hb) ?_
        refine val_run (.pointer (some ⟨w.heap.size + 1, 0, none⟩)) (by simp [execOp, go_sem]) ?_
        simp only [Act.put, List.setIfInBounds_toArray, List.set_cons_succ, List.set_cons_zero]
        refine wpAnyH_done (by kernel_rfl) ?_
        rw [hSS] at hS14
        have hP14 := hS14.blk hS (by decide)
        have c14 : w14.cell? ⟨w.heap.size + 1, 0, none⟩ = some (.slice C' j k') := (hP14.cell 0).trans rfl
        have z14 := hP14.frozen 0
        have hoS : KeptIn (fun q => ∃ t cur, t ≠ 39 ∧ Blk w13 q t cur) w13 w14 := KeptIn.grown (KeptIn.refl _ _) hg14 (fun q hq => by obtain ⟨t, cur, ht, hc⟩ := hq; exact hc.lt) (fun g e hq => by obtain ⟨t, cur, ht, hc⟩ := hq; obtain ⟨cur', hc'⟩ := how13 g e; exact hc.ne hc' ht rfl)
        have hS4 : ∀ t, t ≠ 39 → ∀ b cur, Blk w13 b t cur → ∃ t cur, t ≠ 39 ∧ Blk w13 b t cur := fun t ht b cur hb => ⟨t, cur, ht, hb⟩
        have hS5 : ∀ t, t ≠ 39 → ∀ b cur, Blk wr b t cur → b < w3.heap.size ∨ ∃ t cs, t ≠ 39 ∧ Blk wr b t cs := fun t ht b cur hb => .inr ⟨t, cur, ht, hb⟩
        have hK14 : PvsOk w14 (us ++ [u]) ((xs.take (j + 1)).map madeP) := by
          rw [htkj]
          exact (hks.keptIn hS14 (hS5 _ (by decide)) (hS5 _ (by decide)) (hS5 _ (by decide))).snoc ((hu.below hb13).keptIn hoS (hS4 _ (by decide)) (hS4 _ (by decide)) (hS4 _ (by decide)))
        obtain ⟨w15, hw15⟩ : ∃ q, q = w14.setCell ⟨w.heap.size + 1, 0, none⟩ (.slice C14 (j + 1) k14) := ⟨_, rfl⟩
        have hP15 : Blk w15 (w.heap.size + 1) 30 #[.slice C14 (j + 1) k14] := by rw [hw15]; exact heap_setCell_same w14 _ 0 _ _ _ hP14
        have hk15 : KeptIn (fun q => q ≠ w.heap.size + 1) w14 w15 := by rw [hw15]; exact (KeptIn.refl _ w14).setAt (fun hk => hk rfl) _
        have ha15 : AppZ w15 w3.heap.size 39 7 (.slice C14 (j + 1) k14) (j + 1) ((us ++ [u]).flatMap pvC) := by
          rw [hw15, List.flatMap_append]
          exact ha14.setAt hP14 (by decide)
        have hK15 := hK14.keptIn hk15 (fun b cur hb => hb.ne hP14 (by decide)) (fun b cur hb => hb.ne hP14 (by decide)) (fun b cur hb => hb.ne hP14 (by decide))
        have how15 : ∀ g, (Value.slice C14 (j + 1) k14).ownBlock = some g → ∃ cur, Blk w15 g 39 cur := fun g e => by
          obtain ⟨cur, hc⟩ := ha14.row (by omega) g e
          exact ⟨cur, hc.keptIn hk15 (hc.ne hP14 (by decide))⟩
        have hKK : KeptIn (fun q => q ≠ w.heap.size + 1 ∧ q < w3.heap.size) w3 w15 := (hK.trans (hS14.mono fun q hq => .inl hq.2)).trans (hk15.mono fun q hq => hq.1)
        have HE := Lib.hid (And.intro hP15 (And.intro ha15 (And.intro hK15 (And.intro how15 hKK))))
        have HW15 := Lib.hid hw15
        clear hP15 ha15 hK15 how15 hKK hw15 hk15 hK14 hoS hS4 hS5 hP14 hS14 ha14 hg14 ha13 how13 hS13 hb313 hX13 hb13 hw13 hu hb11 hS11 hcell hrowX hst hSS happ hks how hK hS hvd
        go_wp2_with fail
        rw [← HW15.out]
        obtain ⟨e1, e2, e3, e4, e5⟩ := HE.out
        exact ⟨⟨j + 1, by push_cast; rfl, by omega, by omega, ⟨_, _, _, e1, e2, e3, e4⟩, e5⟩, by simp only [intOf]; omega⟩
      · have dk : decide ((j : Int) < 64) = false := decide_eq_false (by omega)
        have hjk : ¬ (j : Int) < 64 := by omega
        obtain ⟨hN6, hR6⟩ := hfin (.inr h64)
        have HN6 := Lib.hid hN6
        have HR6 := Lib.hid hR6
        have HSr := Lib.hid (net_row hS)
        have HRr := Lib.hid hRr
        clear hN6 hR6 hfin happ hks how hK hS hRr
        go_wp2_with (first | (refine wpList_load_mid rfl 30 (.tmp 3) rfl (w.heap.size + 1) 0 rfl [.slice C' j k'] d30 HSr.out hd30 hrow30 (by kernel_rfl) ?_) | (refine wpList_store_row rfl 30 (.tmp 2) (.tmp 26) rfl w.heap.size #[.slice C' j k'] rfl rfl 30 _ HRr.out (size30 _ rfl) rfl (net_one _ _ _) ?_))
        exact bodyPost_ret (results_cell_row rfl _ _ w.heap.size 30 _ (0, 0) _ rfl HN6.out hd30 (by cases d30 <;> first | rfl | (cases hrow30)) (size30 _ rfl)) rfl (by have h := HR6.out; rw [List.map_take] at h; exact h)
    · have dj : decide ((j : Int) < (n : Int)) = false := decide_eq_false (by omega)
      have hjn : ¬ (j : Int) < (n : Int) := by omega
      obtain ⟨hN6, hR6⟩ := hfin (.inl hlt)
      have HN6 := Lib.hid hN6
      have HR6 := Lib.hid hR6
      have HSr := Lib.hid (net_row hS)
      have HRr := Lib.hid hRr
      clear hN6 hR6 hfin happ hks how hK hS hRr
      go_wp2_with (first | (refine wpList_load_mid rfl 30 (.tmp 3) rfl (w.heap.size + 1) 0 rfl [.slice C' j k'] d30 HSr.out hd30 hrow30 (by kernel_rfl) ?_) | (refine wpList_store_row rfl 30 (.tmp 2) (.tmp 26) rfl w.heap.size #[.slice C' j k'] rfl rfl 30 _ HRr.out (size30 _ rfl) rfl (net_one _ _ _) ?_))
      exact bodyPost_ret (results_cell_row rfl _ _ w.heap.size 30 _ (0, 0) _ rfl HN6.out hd30 (by cases d30 <;> first | rfl | (cases hrow30)) (size30 _ rfl)) rfl (by have h := HR6.out; rw [List.map_take] at h; exact h)
theorem MadeNet_any (A : Option Addr) (n c : Nat) (xs : List Rw) (w : World) (h : RawsAt w A n xs) :
    Calls Try.prog 11 #[.slice A n c] w (PksR (min n 64) ((xs.take 64).map madeP) w) := by
  refine (MadeNetQ_any A n c xs w h).mono ?_
  rintro e w' ⟨⟨v, us, rfl, h1, h2, h3⟩, hb⟩
  have hlt := h1.lt
  obtain ⟨A', c', rfl, hc, ht⟩ := h1.trd7
  exact ⟨⟨A', c', rfl, hc, ⟨us, ht, h2⟩, fun b off e => (hlt b (by rw [e]; rfl)).1⟩, hb⟩
end Go.Proofs.Yteofgkdpknaapaa
