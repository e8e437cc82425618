/- Package net: the reader's meta. -/
import Derived.Test.YteofgkdpknaapaaN6
namespace Go.Proofs.Yteofgkdpknaapaa
open Go.RowKit Go.Sort

/-- A signature under a key, as it lies in a row. -/
structure Kv where
  (k i : Int) (C : Option Addr) (n c : Nat) (D : Option Addr) (m d : Nat)
def kvC (x : Kv) : List Value := [.int .i64 x.k, .int .i64 x.i, .slice x.C x.n x.c, .slice x.D x.m x.d]
theorem kvC_len (x : Kv) : (kvC x).length = 4 := rfl
def KvOk (w : World) (v : Kv) (x : Ky) : Prop := v.k = x.k ∧ v.i = x.s.i ∧ v.n ≤ v.c ∧ v.m ≤ v.d ∧ TRd w 93 32 v.C v.n (x.s.ch.flatMap sumC) ∧ TRd w 93 32 v.D v.m (x.s.pa.flatMap sumC)
theorem KvOk.keptIn {S : Nat → Prop} {w w' : World} {v : Kv} {x : Ky} (h : KvOk w v x) (hk : KeptIn S w w') (hS : ∀ b cur, Blk w b 93 cur → S b) : KvOk w' v x :=
  ⟨h.1, h.2.1, h.2.2.1, h.2.2.2.1, h.2.2.2.2.1.keptIn hk hS, h.2.2.2.2.2.keptIn hk hS⟩
def KvsOk (w : World) (vs : List Kv) (xs : List Ky) : Prop := vs.length = xs.length ∧ ∀ (q : Nat) (v : Kv) (x : Ky), vs[q]? = some v → xs[q]? = some x → KvOk w v x
theorem KvsOk.keptIn {S : Nat → Prop} {w w' : World} {vs : List Kv} {xs : List Ky} (h : KvsOk w vs xs) (hk : KeptIn S w w') (hS : ∀ b cur, Blk w b 93 cur → S b) : KvsOk w' vs xs :=
  ⟨h.1, fun q v x hv hx => (h.2 q v x hv hx).keptIn hk hS⟩
theorem KvsOk.below {w w' : World} {vs : List Kv} {xs : List Ky} (h : KvsOk w vs xs) (hb : Below w.heap.size w w') : KvsOk w' vs xs :=
  h.keptIn (KeptIn.of_below (S := fun k => k < w.heap.size) hb fun _ hk => hk) fun _ _ hb => hb.lt
theorem KvsOk.nil (w : World) : KvsOk w [] [] := ⟨rfl, fun q v x h => by simp at h⟩
theorem KvsOk.snoc {w : World} {vs : List Kv} {xs : List Ky} {v : Kv} {x : Ky} (h : KvsOk w vs xs) (hv : KvOk w v x) : KvsOk w (vs ++ [v]) (xs ++ [x]) := by
  refine ⟨by simp [h.1], fun q v' x' h1 h2 => ?_⟩
  rcases Nat.lt_or_ge q vs.length with hq | hq
  · rw [List.getElem?_append_left hq] at h1
    rw [List.getElem?_append_left (by rw [← h.1]; exact hq)] at h2
    exact h.2 q v' x' h1 h2
  · rw [List.getElem?_append_right hq] at h1
    rw [List.getElem?_append_right (by rw [← h.1]; exact hq), ← h.1] at h2
    cases hz : q - vs.length with
    | zero =>
      rw [hz] at h1 h2
      simp only [List.getElem?_cons_zero, Option.some.injEq] at h1 h2
      rw [← h1, ← h2]
      exact hv
    | succ z => rw [hz] at h1; simp at h1
/-- Signatures under keys. -/
def SgsAt (w : World) (A : Option Addr) (n : Nat) (xs : List Ky) : Prop := ∃ vs, TRd w 98 4 A n (vs.flatMap kvC) ∧ KvsOk w vs xs
theorem info98 : (Try.prog.info? 98).map (fun i => (i.zero, i.size, i.bytes)) = some (some (.agg (kvC ⟨0, 0, none, 0, 0, none, 0, 0⟩).toArray), 4, 64) := by kernel_rfl
theorem built98 (k : Int) (i : Int) (C : Option Addr) (n c : Nat) (D : Option Addr) (m d : Nat) : Try.prog.built 98 [(0, .int .i64 k), (1, .agg (sgV i C n c D m d).toArray)] = some (kvC ⟨k, i, C, n, c, D, m, d⟩).toArray := by kernel_rfl
theorem rd4_one {W : World} {B T : Nat} {x : Kv} (h : Blk W B T (kvC x).toArray) : Rd W 4 (some ⟨B, 0, none⟩) 1 (kvC x) := by
  have := h.rd (by rw [kvC_len]; omega)
  rw [kvC_len] at this
  exact ⟨by rw [kvC_len], by omega, fun h0 => by
    obtain ⟨b, o, e, hc⟩ := this.2.2 (by omega)
    exact ⟨b, o, e, hc⟩⟩
theorem kv_one (x : Kv) : ∀ v ∈ kvC x, v.oneCell' = true := fun v hv => by
  simp only [kvC, List.mem_cons, List.not_mem_nil, or_false] at hv
  rcases hv with rfl | rfl | rfl | rfl <;> rfl
/-- What meta answers. -/
def MetaR (rb pb : Nat) (k u : Int) (n : Nat) (bs : List UInt8) (w : World) (e : Ending) (w' : World) : Prop :=
  (match metaR n bs with
    | some (x, t) => e = .returned (.tuple #[]) ∧ RdS w' rb t ∧ ∃ (A B : Option Addr) (c d : Nat), Blk w' pb 39 (pkC k u (n : Int) nl nl (.slice A x.1.length c) (.slice B x.2.length d)).toArray ∧ x.1.length ≤ c ∧ x.2.length ≤ d ∧ TRd w' 5 1 A x.1.length (x.1.map byteV) ∧ SgsAt w' B x.2.length x.2
    | none => e = .panicked dmg ∧ PkAt w' pb k u (n : Int)) ∧ Two rb pb w w'
theorem meta_lst {N : Nat} {bs : List UInt8} (h : lst 4096 bs = none) : metaR N bs = none := by unfold metaR; rw [h]; rfl
theorem meta_one {N : Nat} {bs x : List UInt8} (h : lst 4096 bs = some (x, [])) : metaR N bs = none := by unfold metaR; rw [h]; rfl
theorem meta_many {N : Nat} {bs x t : List UInt8} {a : UInt8} (h : lst 4096 bs = some (x, a :: t)) (hm : many key1 a.toNat t = none) : metaR N bs = none := by
  unfold metaR
  rw [h]
  show (many key1 a.toNat t).bind _ = none
  rw [hm]
  rfl
theorem meta_end {N : Nat} {bs x t t' : List UInt8} {a : UInt8} {ks : List Ky} (h : lst 4096 bs = some (x, a :: t)) (hm : many key1 a.toNat t = some (ks, t')) : metaR N bs = if a.toNat ≤ 16 ∧ N = 0 then some ((x, ks), t') else none := by
  unfold metaR
  rw [h]
  show (many key1 a.toNat t).bind _ = _
  rw [hm]
  rfl
set_option maxRecDepth 100000 in
set_option maxHeartbeats 1000000 in
theorem meta_any (rb pb : Nat) (k u : Int) (n : Nat) (bs : List UInt8) (w : World) (hS : RdS w rb bs) (hP : Blk w pb 39 (pkC k u (n : Int) nl nl nl nl).toArray) :
    Calls Try.prog 55 #[.pointer (some ⟨rb, 0, none⟩), .pointer (some ⟨pb, 0, none⟩)] w (MetaR rb pb k u n bs w) := by
  have hne : pb ≠ rb := by obtain ⟨cs, h⟩ := hS.only_blk; exact hP.ne h (by decide)
  have h1 := list_any rb 4096 bs w hS (by omega)
  have HP := Lib.hid hP
  have Hn := Lib.hid (show ∀ w', Two rb pb w w' → PkAt w' pb k u (n : Int) → metaR n bs = none → MetaR rb pb k u n bs w (.panicked dmg) w' from fun w' h hp e => by unfold MetaR; rw [e]; exact ⟨⟨rfl, hp⟩, h⟩)
  clear hS hP
  go_enter Try.func55, Try.ntmps55
  go_wp2_with fail
  refine h1.mono ?_
  rintro e w1 ⟨hm1, ho1⟩
  cases hl : lst 4096 bs with
  | none =>
    rw [hl] at hm1
    subst hm1
    exact ⟨rfl, Hn.out _ (.of_only ho1) ⟨_, _, _, _, ho1.blk HP.out hne⟩ (meta_lst hl)⟩
  | some xt =>
    obtain ⟨x, t1⟩ := xt
    rw [hl] at hm1
    obtain ⟨⟨A, c, rfl, hc, hr⟩, hS1⟩ := hm1
    have hP1 := ho1.blk HP.out hne
    have c5 : w1.cell? ⟨pb, 5, none⟩ = some nl := by rw [hP1.cell]; rfl
    have z5 := hP1.frozen 5
    have HS1 := Lib.hid hS1
    have HP1 := Lib.hid hP1
    have HR1 := Lib.hid hr
    have HT1 := Lib.hid (show Two rb pb w w1 from .of_only ho1)
    have Hl := Lib.hid hl
    clear hS1 hP1 hr ho1 h1 hl HP
    go_wp2_with fail
    obtain ⟨w2, hw2⟩ : ∃ v, v = w1.setCell ⟨pb, 5, none⟩ (.slice A x.length c) := ⟨_, rfl⟩
    rw [← hw2]
    have hS2 : RdS w2 rb t1 := by rw [hw2]; exact HS1.out.pk HP1.out _
    have hP2 : Blk w2 pb 39 (pkC k u (n : Int) nl nl (.slice A x.length c) nl).toArray := by rw [hw2]; exact pk_set5 HP1.out _
    have ht2 : Two rb pb w1 w2 := by rw [hw2]; exact Two.set w1 _
    have hr2 : TRd w2 5 1 A x.length (x.map byteV) := by
      rw [hw2]
      exact HR1.out.keptIn ((KeptIn.refl (fun k => k ≠ pb) w1).setAt (fun hk => hk rfl) _) (fun b cur hb => hb.ne HP1.out (by decide))
    have HP2 := Lib.hid hP2
    have HR2 := Lib.hid hr2
    have HT2 := Lib.hid (HT1.out.trans ht2)
    have h2 := one_any rb t1 w2 hS2
    obtain ⟨_, hb2⟩ := hS2.only_blk
    clear hS2 hP2 ht2 hr2 hw2 HS1 HP1 HR1 HT1 c5 z5
    refine h2.mono ?_
    rintro e w3 ⟨hm2, ho2⟩
    rcases t1 with _ | ⟨a, t1⟩
    · cases hm2
      exact ⟨rfl, Hn.out _ (HT2.out.trans (.of_only ho2)) ⟨_, _, _, _, ho2.blk HP2.out hne⟩ (meta_one Hl.out)⟩
    simp only [one] at hm2
    obtain ⟨rfl, hS3⟩ := hm2
    have hal := a.toNat_lt
    obtain ⟨m, hm⟩ : ∃ m, m = a.toNat := ⟨_, rfl⟩
    rw [← hm] at hal ⊢
    have hP3 := ho2.blk HP2.out hne
    have hr3 : TRd w3 5 1 A x.length (x.map byteV) := HR2.out.keptIn ho2 (fun b cur hb => ⟨hb.ne hb2 (by decide), hb.lt⟩)
    have HT3 := Lib.hid (HT2.out.trans (.of_only ho2))
    have HP3 := Lib.hid hP3
    have HR3 := Lib.hid hr3
    have HS3 := Lib.hid hS3
    have Hm := Lib.hid hm
    clear h2 ho2 hP3 hr3 hS3 hm HP2 HR2 HT2
    obtain ⟨B3, hB3⟩ : ∃ v, v = w3.heap.size := ⟨_, rfl⟩
    have hpb : pb < B3 := by rw [hB3]; exact HP3.out.lt
    have hrb : rb < B3 := by obtain ⟨_, h⟩ := HS3.out.only_blk; rw [hB3]; exact h.lt
    have hA0 : 0 < x.length → ∀ b off, A = some ⟨b, off, none⟩ → b < B3 := fun h0 b off e => by rw [hB3]; exact HR3.out.1.lt (by omega) h0 e
    have hwB : w.heap.size ≤ B3 := by rw [hB3]; exact HT3.out.size
    go_wp2_with fail
    go_loopw [5, 6, 7, 8, 18] (fun _ _ _ _ v18 wr => ∃ j : Nat, v18 = .int .i64 (j : Int) ∧ j ≤ m ∧ ∃ (xs : List Ky) (vs : List Kv) (t : List UInt8) (v : Value), many key1 j t1 = some (xs, t) ∧ RdS wr rb t ∧ (∃ A' n' c', v = .slice A' n' c') ∧ Blk wr pb 39 (pkC k u (n : Int) nl nl (.slice A x.length c) v).toArray ∧ AppZ wr B3 98 4 v j (vs.flatMap kvC) ∧ KvsOk wr vs xs ∧ (∀ g, v.ownBlock = some g → ∃ cur, Blk wr g 98 cur) ∧ TRd wr 5 1 A x.length (x.map byteV) ∧ Two rb pb w wr ∧ B3 ≤ wr.heap.size) (fun _ _ _ _ v18 _ => m - (intOf v18).toNat)
    case atStart => exact ⟨0, rfl, Nat.zero_le _, [], [], t1, nl, rfl, HS3.out, ⟨_, _, _, rfl⟩, HP3.out, AppZ.nil _, KvsOk.nil _, (fun g e => by cases e), HR3.out, HT3.out, by omega⟩
    case round =>
      obtain ⟨j, rfl, hj, xs, vs, t, v, hmany, hS, ⟨A', n', c', hv⟩, hP, happ, hks, hown, hr, hT, hB⟩ := hrel
      have HS := Lib.hid hS
      have HP := Lib.hid hP
      have Happ := Lib.hid happ
      have HK := Lib.hid hks
      have HOw := Lib.hid hown
      have HR := Lib.hid hr
      have HT := Lib.hid hT
      have HM := Lib.hid hmany
      have HV := Lib.hid hv
      clear hS hP happ hks hown hr hT hmany hv HS3 HP3 HR3 HT3
      by_cases hlt : j < m
      · have d0 : decide ((j : Int) < (m : Int)) = true := decide_eq_true (by omega)
        have d2 : (j : Int) < (m : Int) := by omega
        have hbad : ∀ W, Two rb pb w W → PkAt W pb k u (n : Int) → key1 t = none → MetaR rb pb k u n bs w (.panicked dmg) W := fun W h hp e => Hn.out W h hp (meta_many Hl.out (by rw [← Hm.out]; exact many_stop HM.out e hlt))
        have Hbad := Lib.hid hbad
        have h3 := one_any rb t wr HS.out
        clear hbad
        go_wp2_with fail
        refine h3.mono ?_
        rintro e w4 ⟨hm4, ho4⟩
        rcases t with _ | ⟨ky, t⟩
        · cases hm4
          exact ⟨rfl, Hbad.out _ (HT.out.trans (.of_only ho4)) ⟨_, _, _, _, ho4.blk HP.out hne⟩ rfl⟩
        simp only [one] at hm4
        obtain ⟨rfl, hS4⟩ := hm4
        have hkl := ky.toNat_lt
        obtain ⟨key, hkey⟩ : ∃ v, v = ky.toNat := ⟨_, rfl⟩
        rw [← hkey] at hkl ⊢
        have Hky := Lib.hid hkey
        have HO4 := Lib.hid ho4
        have HS4 := Lib.hid hS4
        obtain ⟨A4, c4, hb4, hlc4, hr4, _⟩ := hS4
        have a0 : w4.cell? ⟨rb, 0, none⟩ = some (.slice A4 t.length c4) := by rw [hb4.cell]; rfl
        have Hr4 := Lib.hid hr4
        clear h3 ho4 hb4 hr4 hkey
        obtain ⟨size, hsize⟩ : ∃ v, v = szK t := ⟨_, rfl⟩
        have Hsz := Lib.hid hsize
        have hszl : size ≤ 10306 := by
          rw [hsize]; unfold szK
          have := (t.getD 1 0).toNat_lt
          split <;> omega
        have h5 := take_any rb size t w4 HS4.out (by omega)
        by_cases h2 : 2 ≤ t.length
        · have d3 : decide ((t.length : Int) ≥ 2) = true := decide_eq_true (by omega)
          have d4 : (2 : Int) ≤ (t.length : Int) := by omega
          obtain ⟨b4, o4, rfl, hk4⟩ := Hr4.out.2.2 (by omega)
          obtain ⟨y, hy⟩ : ∃ y, t[1]? = some y := ⟨_, List.getElem?_eq_getElem (by omega)⟩
          have a1 : w4.cell? ⟨b4, o4 + 1, none⟩ = some (.int .u8 (y.toNat : Int)) := hk4 1 (byteV y) (by rw [List.getElem?_map, hy]; rfl)
          have hyl := y.toNat_lt
          have hsz : size = 2146 + 32 * y.toNat := by
            rw [hsize]; unfold szK
            rw [if_pos h2, List.getD_eq_getElem?_getD, hy]; rfl
          have hszi : (2146 : Int) + (y.toNat : Int) * 32 = (size : Int) := by rw [hsz]; push_cast; omega
          have d5 : (1 : Int) < (t.length : Int) := by omega
          clear hsize hk4 hsz
          go_wp2_with fail
          refine h5.mono ?_
          rintro e w5 ⟨⟨hle5, ⟨A5, c5, rfl, hc5, hr5, _⟩, hS5⟩ | ⟨hlt5, rfl⟩, ho5⟩
          · have h6 := Parse_any A5 size c5 (t.take size) w5 hr5 hc5 (by omega)
            have HO5 := Lib.hid (HO4.out.trans ho5)
            have HS5 := Lib.hid hS5
            have Hle := Lib.hid hle5
            clear h5 ho5 hS5 hr5 HO4 HS4 Hr4 a0 a1 hle5
            go_wp2_with fail
            refine h6.mono ?_
            rintro e w6 ⟨⟨C, nn, cc, D, mm, dd, rfl, hnc, hmd, hrC, hrD⟩, hb6⟩
            obtain ⟨sg, hsg⟩ : ∃ v, v = (parS (t.take size)).1 := ⟨_, rfl⟩
            obtain ⟨er, her⟩ : ∃ v, v = (parS (t.take size)).2 := ⟨_, rfl⟩
            rw [← hsg, ← her]
            rw [← hsg] at hrC hrD
            obtain ⟨w7, hw7⟩ : ∃ v, v = (w6.alloc (.cells (sgV 0 none 0 0 none 0 0).toArray 95)).setRow w6.heap.size (sgV sg.i C nn cc D mm dd).toArray := ⟨_, rfl⟩
            obtain ⟨X7, hX7⟩ : ∃ v, v = w6.heap.size := ⟨_, rfl⟩
            have hN7 : Blk (w6.alloc (.cells (sgV 0 none 0 0 none 0 0).toArray 95)) X7 95 (sgV 0 none 0 0 none 0 0).toArray := by rw [hX7]; exact Blk.new _ _ _
            have hx7 : Blk w7 X7 95 (sgV sg.i C nn cc D mm dd).toArray := by rw [hw7, hX7]; exact setRow_heap _ _ _ _ _ _ (by rw [← hX7]; exact hN7)
            have hb7 : Below w6.heap.size w6 w7 := by rw [hw7]; exact Below.setRow ((Below.refl _ _).alloc (Nat.le_refl _) _) (Nat.le_refl _) _
            have Hb67 := Lib.hid hb7
            have HO7 := Lib.hid (HO5.out.trans ((Only.of_below hb6).trans (Only.of_below hb7)))
            have HS7 := Lib.hid ((HS5.out.only_below hb6).only_below hb7)
            have HC7 := Lib.hid (hrC.below hb7)
            have HD7 := Lib.hid (hrD.below hb7)
            have HX7 := Lib.hid hx7
            have HN7 := Lib.hid hN7
            have HW7 := Lib.hid hw7
            have HE7 := Lib.hid hX7
            have Hsg := Lib.hid hsg
            have Her := Lib.hid her
            have hnb : Try.prog.info? 95 = Try.prog.info? 95 := rfl
            obtain ⟨i37, hi37, hz37, _, _⟩ := info_parts info37
            clear hb6 hb7 hrC hrD hx7 hN7 hw7 hX7 hsg her HO5 HS5 h6 hnb
            by_cases hgood : er = 0 ∧ key < 16
            · obtain ⟨hg1, hg2⟩ := hgood
              have d6 : decide ((key : Int) ≥ 16) = false := decide_eq_false (by omega)
              have d7 : ¬ (16 : Int) ≤ (key : Int) := by omega
              subst hg1
              have hst7 := HE7.out ▸ HN7.out
              go_upto_region 11 with (first | (refine wpList_alloc0 rfl 95 rfl (sgV 0 none 0 0 none 0 0).toArray _ i37 hi37 hz37 rfl ?_; simp only [Act.put, List.setIfInBounds_toArray, List.set_cons_succ, List.set_cons_zero]) | (refine wpList_store_row rfl 95 (.tmp 7) (.tmp 43) rfl w6.heap.size (sgV sg.i C nn cc D mm dd).toArray rfl rfl 95 (sgV 0 none 0 0 none 0 0).toArray hst7 (size37 _ rfl) rfl (sg_one _ _ _ _ _ _ _) ?_; rw [← HW7.out]))
              have ho7 := HO7.out
              have hP7 : Blk w7 pb 39 (pkC k u (n : Int) nl nl (.slice A x.length c) v).toArray := ho7.blk HP.out hne
              have ha7 := Happ.out.only ho7 hrb
              have how7 : ∀ g, v.ownBlock = some g → ∃ cur, Blk w7 g 98 cur := fun g e => by
                obtain ⟨cur, hc⟩ := HOw.out g e
                exact ⟨cur, ho7.blk hc (by have := (Happ.out.lt g e).1; omega)⟩
              have hv := HV.out
              subst hv
              obtain ⟨SS, hSS⟩ : ∃ SS : World → Prop, SS = fun W => KeptIn (fun q => q < w7.heap.size ∧ some q ≠ (Value.slice A' n' c').ownBlock) w7 W := ⟨_, rfl⟩
              have hst : SS w7.drew := by rw [hSS]; exact KeptIn.of_below ((Below.refl w7.heap.size w7).drew) fun q hq => hq.1
              have hcl : ∀ W W', w7.heap.size ≤ W.heap.size → SS W → Below W.heap.size W W' → SS W' := fun W W' hs hW hb => by rw [hSS] at hW ⊢; exact hW.trans (KeptIn.of_below hb fun q hq => by omega)
              have hnpb : some pb ≠ (Value.slice A' n' c').ownBlock := fun e => by have := (Happ.out.lt pb e.symm).1; omega
              have hnX : some X7 ≠ (Value.slice A' n' c').ownBlock := fun e => by
                obtain ⟨cur, hc⟩ := how7 X7 e.symm
                exact (HX7.out.ne hc (by decide)) rfl
              have hcell : ∀ W, SS W → W.cell? ⟨pb, 6, none⟩ = some (.slice A' n' c') := fun W hW => by
                rw [hSS] at hW
                rw [(hP7.keptIn hW ⟨hP7.lt, hnpb⟩).cell]; rfl
              have hrow : ∀ W, SS W → W.rangeAt X7 0 (sgV sg.i C nn cc D mm dd) := fun W hW => by
                rw [hSS] at hW
                exact (HX7.out.keptIn hW ⟨HX7.out.lt, hnX⟩).range
              obtain ⟨i98, hi98, hz98, hs98, hy98⟩ := info_parts info98
              obtain ⟨d37, hd37, hrow37⟩ := und37
              refine wp_region_reads_tailN (S := SS) 14 [0, 1, 2, 3, 4, 5, 6, 7, 8] 5 (by kernel_rfl) (List.take_append_drop _ _) rfl (by kernel_rfl) (by kernel_rfl) (by kernel_rfl) (by decide) (by kernel_rfl) (by kernel_rfl) (fun _ _ d _ _ h => by cases d <;> exact h) (by kernel_rfl) (by kernel_rfl) rfl hst ?_
              refine wpQuiet_val rfl (.pointer (some ⟨pb, 0, none⟩)) (fun W hW => by first | rfl | simp [execOp, go_sem]) ?_
              simp only [Act.put, List.setIfInBounds_toArray, List.set_cons_succ, List.set_cons_zero]
              refine wpQuiet_val rfl (.pointer (some ⟨pb, 0, none⟩)) (fun W hW => by first | rfl | simp [execOp, go_sem]) ?_
              simp only [Act.put, List.setIfInBounds_toArray, List.set_cons_succ, List.set_cons_zero]
              refine wpQuiet_val rfl (.pointer (some ⟨pb, 0, none⟩)) (fun W hW => by simp [execOp, go_sem]) ?_
              simp only [Act.put, List.setIfInBounds_toArray, List.set_cons_succ, List.set_cons_zero]
              refine wpQuiet_val rfl (.pointer (some ⟨pb, 5, none⟩)) (fun W hW => by simp [execOp, go_sem]) ?_
              simp only [Act.put, List.setIfInBounds_toArray, List.set_cons_succ, List.set_cons_zero]
              refine wpQuiet_val rfl (.pointer (some ⟨pb, 6, none⟩)) (fun W hW => by simp [execOp, go_sem]) ?_
              simp only [Act.put, List.setIfInBounds_toArray, List.set_cons_succ, List.set_cons_zero]
              refine wpQuiet_val rfl (.slice A' n' c') (fun W hW => by have h := hcell W hW; simp [execOp, go_sem, h]) ?_
              simp only [Act.put, List.setIfInBounds_toArray, List.set_cons_succ, List.set_cons_zero]
              refine wpQuiet_val rfl (.int .i64 (key : Int)) (fun W hW => by first | rfl | simp [execOp, go_sem]) ?_
              simp only [Act.put, List.setIfInBounds_toArray, List.set_cons_succ, List.set_cons_zero]
              rw [← HE7.out]
              refine wpQuiet_load_mid_g (by kernel_rfl) 95 (.tmp 7) rfl X7 0 rfl (sgV sg.i C nn cc D mm dd) d37 hrow hd37 hrow37 (by kernel_rfl) ?_
              simp only [Act.put, List.setIfInBounds_toArray, List.set_cons_succ, List.set_cons_zero]
              obtain ⟨kv, hkv⟩ : ∃ q : Kv, q = ⟨(key : Int), sg.i, C, nn, cc, D, mm, dd⟩ := ⟨_, rfl⟩
              refine wpQuiet_val rfl (.agg (kvC kv).toArray) (fun W hW => run_build_op 98 _ rfl [(0, .int .i64 (key : Int)), (1, .agg (sgV sg.i C nn cc D mm dd).toArray)] rfl _ (by rw [hkv]; exact built98 _ _ _ _ _ _ _ _) W) ?_
              simp only [Act.put, List.setIfInBounds_toArray, List.set_cons_succ, List.set_cons_zero]
              refine wpQuiet_nil ?_
              refine wpAnyH_val (i := 9) (by kernel_rfl) (by rfl) (by rfl) ?_
              refine valB (fun W' hb => hcl w7.drew W' (Nat.le_refl w7.heap.size) hst hb) ?_
              refine val_build1 rfl 35 98 (.tmp 61) rfl (kvC kv).toArray i98 _ 4 Try.underlying35 hi98 hz98 hs98 (by omega) (by decide) rfl rfl ?_
              obtain ⟨w8, hw8⟩ : ∃ q, q = w7.drew.alloc (.cells (kvC kv).toArray 98) := ⟨_, rfl⟩
              rw [← hw8]
              have hb78 : Below w7.heap.size w7 w8 := by rw [hw8]; exact ((Below.refl _ _).drew).alloc (Nat.le_refl _) _
              have hX8 : Blk w8 w7.heap.size 98 (kvC kv).toArray := by rw [hw8]; exact Blk.new _ _ _
              have hS8s : SS w8 := hcl _ _ (Nat.le_refl _) (by rw [hSS]; exact KeptIn.refl _ _) hb78
              have ha8 : AppZ w8 B3 98 4 (.slice A' n' c') j (vs.flatMap kvC) := ha7.below hb78 (Nat.le_refl _)
              have hS8 : RdS w8 rb (t.drop size) := HS7.out.only_below hb78
              have hB8 : B3 ≤ w8.heap.size := by have := hb78.size; have := ho7.size; omega
              simp only [Act.put, List.setIfInBounds_toArray, List.set_cons_succ, List.set_cons_zero]
              refine wpAnyH_val (i := 10) (by kernel_rfl) (by rfl) (by rfl) ?_
              refine val_appz rfl (.tmp 58) (.tmp 62) 35 rfl 98 i98 _ 4 64 Try.underlying35 hi98 hz98 hs98 hy98 rfl (by omega) B3 hB8 (.slice A' n' c') j (vs.flatMap kvC) rfl ha8 (some ⟨w7.heap.size, 0, none⟩) 1 1 (kvC kv) rfl (rd4_one hX8) (kv_one _) (by unfold maxLen; omega) (by omega) (fun v9 w9 ha9 hg9 => ?_)
              have hS9s : SS w9 := by
                rw [hSS] at hS8s ⊢
                exact hS8s.grown hg9 (fun q hq => by have := hb78.size; omega) (fun q e hq => hq.2 e.symm)
              have hz9 : w7.heap.size ≤ w9.heap.size := Nat.le_trans hb78.size hg9.size
              have hS9 : RdS w9 rb (t.drop size) := hS8.grown hg9 (fun g e => by have := (ha8.lt g e).1; omega)
              refine ⟨hS9s, ?_⟩
              simp only [Act.put, List.setIfInBounds_toArray, List.set_cons_succ, List.set_cons_zero]
              refine wpAnyH_val (i := 11) (by kernel_rfl) (by rfl) (by rfl) ?_
              refine valB (fun W' hb => hcl _ _ hz9 hS9s hb) ?_
              refine val_run (.pointer (some ⟨pb, 0, none⟩)) (by simp [execOp, go_sem]) ?_
              simp only [Act.put, List.setIfInBounds_toArray, List.set_cons_succ, List.set_cons_zero]
              refine wpAnyH_val (i := 12) (by kernel_rfl) (by rfl) (by rfl) ?_
              refine valB (fun W' hb => hcl _ _ hz9 hS9s hb) ?_
              refine val_run (.pointer (some ⟨pb, 5, none⟩)) (by simp [execOp, go_sem]) ?_
              simp only [Act.put, List.setIfInBounds_toArray, List.set_cons_succ, List.set_cons_zero]
              refine wpAnyH_val (i := 13) (by kernel_rfl) (by rfl) (by rfl) ?_
              refine valB (fun W' hb => hcl _ _ hz9 hS9s hb) ?_
              refine val_run (.pointer (some ⟨pb, 6, none⟩)) (by simp [execOp, go_sem]) ?_
              simp only [Act.put, List.setIfInBounds_toArray, List.set_cons_succ, List.set_cons_zero]
              refine wpAnyH_done (by kernel_rfl) ?_
              rw [hSS] at hS9s
              have hP9 : Blk w9 pb 39 (pkC k u (n : Int) nl nl (.slice A x.length c) (.slice A' n' c')).toArray := hP7.keptIn hS9s ⟨hP7.lt, hnpb⟩
              have hb3x : B3 ≤ w7.heap.size := by have := ho7.size; omega
              have hR7 : TRd w7 5 1 A x.length (x.map byteV) := HR.out.keptOn ho7 fun h0 b off e => ⟨by obtain ⟨cur, hc⟩ := HR.out.2 h0 b off e; obtain ⟨_, hb⟩ := HS.out.only_blk; exact hc.ne hb (by decide), HR.out.1.lt (by omega) h0 e⟩
              have hR9 : TRd w9 5 1 A x.length (x.map byteV) := hR7.keptOn hS9s fun h0 b off e => ⟨hR7.1.lt (by omega) h0 e, fun e' => by have h8 := (Happ.out.lt b e'.symm).1; have h9 := hA0 h0 b off e; omega⟩
              have hT9 : Two rb pb w w9 := KeptIn.trans (KeptIn.trans HT.out (KeptIn.mono ho7 fun q hq => ⟨hq.1, by have := HT.out.size; omega⟩)) (KeptIn.mono hS9s fun q hq => ⟨by omega, fun e' => by have h8 := (Happ.out.lt q e'.symm).1; omega⟩)
              have hsum : ∀ b cur, Blk w7 b 93 cur → b < w7.heap.size ∧ some b ≠ (Value.slice A' n' c').ownBlock := fun b cur hb => ⟨hb.lt, fun e' => by
                obtain ⟨cur', hc⟩ := how7 b e'.symm
                exact (hb.ne hc (by decide)) rfl⟩
              have hK7 : KvsOk w7 vs xs := HK.out.keptIn ho7 fun b cur hb => ⟨by obtain ⟨_, h⟩ := HS.out.only_blk; exact hb.ne h (by decide), hb.lt⟩
              have hK9 : KvsOk w9 (vs ++ [kv]) (xs ++ [⟨(key : Int), sg⟩]) := (hK7.keptIn hS9s hsum).snoc (by
                rw [hkv]
                exact ⟨rfl, rfl, hnc, hmd, HC7.out.keptIn hS9s hsum, HD7.out.keptIn hS9s hsum⟩)
              have c6 : w9.cell? ⟨pb, 6, none⟩ = some (.slice A' n' c') := by rw [hP9.cell]; rfl
              have z6 := hP9.frozen 6
              have hkey1 : key1 (ky :: t) = some (⟨(key : Int), sg⟩, t.drop size) := by
                have hf : formP (t.take size) = true := by
                  cases hf : formP (t.take size) with
                  | true => rfl
                  | false => have := Her.out; rw [par_bad hf] at this; simp at this
                simp only [key1]
                rw [← Hsz.out, ← Hky.out, if_pos ⟨Hle.out, hf, hg2⟩, ← Hsg.out]
              have hM9 := many_go HM.out hkey1
              have how9 := ha9.row (by omega)
              obtain ⟨A9, c9, rfl, hc9, _⟩ := ha9.rd
              obtain ⟨W8, hW8⟩ : ∃ q, q = w9.setCell ⟨pb, 6, none⟩ (.slice A9 (j + 1) c9) := ⟨_, rfl⟩
              have hkp : KeptIn (fun q => q ≠ pb) w9 (w9.setCell ⟨pb, 6, none⟩ (.slice A9 (j + 1) c9)) := (KeptIn.refl _ w9).setAt (fun hk => hk rfl) _
              have H8 := Lib.hid (show RdS W8 rb (t.drop size) ∧ Blk W8 pb 39 (pkC k u (n : Int) nl nl (.slice A x.length c) (.slice A9 (j + 1) c9)).toArray ∧ AppZ W8 B3 98 4 (.slice A9 (j + 1) c9) (j + 1) ((vs ++ [kv]).flatMap kvC) ∧ KvsOk W8 (vs ++ [kv]) (xs ++ [⟨(key : Int), sg⟩]) ∧ (∀ g, (Value.slice A9 (j + 1) c9).ownBlock = some g → ∃ cur, Blk W8 g 98 cur) ∧ TRd W8 5 1 A x.length (x.map byteV) ∧ Two rb pb w W8 ∧ B3 ≤ W8.heap.size from by
                rw [hW8]
                refine ⟨hS9.pk hP9 _, pk_set6 hP9 _, ?_, hK9.keptIn hkp (fun b cur hb => hb.ne hP9 (by decide)), fun g e => ?_, hR9.keptOn hkp (fun h0 b off e => by obtain ⟨cur, hc⟩ := hR9.2 h0 b off e; exact hc.ne hP9 (by decide)), hT9.trans (Two.set w9 _), ?_⟩
                · rw [List.flatMap_append, show [kv].flatMap kvC = kvC kv by simp]
                  exact ha9.setAt hP9 (by decide)
                · obtain ⟨cur, hc⟩ := how9 g e
                  exact ⟨cur, hc.keptIn hkp (hc.ne hP9 (by decide))⟩
                · have := (Two.set (rb := rb) (pb := pb) (i := 6) w9 (.slice A9 (j + 1) c9)).size
                  omega)
              have HM9 := Lib.hid hM9
              clear hP9 hR7 hR9 hT9 hsum hK7 hK9 hkey1 hM9 how9 ha9 hkp hS9 hS9s hg9 ha8 hS8 hS8s hX8 hb78 hcell hrow hcl hst hSS how7 ha7 hP7 ho7 Hn HS HP Happ HK HOw HR HT HM HV Hbad HO7 HS7 HC7 HD7 HX7 HN7 HW7 Hb67
              go_wp2_with fail
              rw [← hW8]
              obtain ⟨g1, g2, g3, g4, g5, g6, g7, g8⟩ := H8.out
              exact ⟨⟨j + 1, by push_cast; rfl, by omega, _, _, _, _, HM9.out, g1, ⟨_, _, _, rfl⟩, g2, g3, g4, g5, g6, g7, g8⟩, by simp only [intOf]; omega⟩
            · have hno : key1 (ky :: t) = none := by
                simp only [key1]
                rw [← Hsz.out, ← Hky.out, if_neg (fun h => hgood ⟨?_, h.2.2⟩)]
                rw [Her.out]
                unfold parS
                rw [if_pos h.2.1]
              have HN := Lib.hid (Hbad.out w7 (HT.out.trans (.of_only HO7.out)) ⟨_, _, _, _, HO7.out.blk HP.out hne⟩ hno)
              have hst7 := HE7.out ▸ HN7.out
              clear hno Hbad
              cases hf : formP (t.take size) with
              | false =>
                have he3 : er = 3 := by rw [Her.out, par_bad hf]
                subst he3
                go_wp2_with (first | (refine wpList_alloc0 rfl 95 rfl (sgV 0 none 0 0 none 0 0).toArray _ i37 hi37 hz37 rfl ?_; simp only [Act.put, List.setIfInBounds_toArray, List.set_cons_succ, List.set_cons_zero]) | (refine wpList_store_row rfl 95 (.tmp 7) (.tmp 43) rfl w6.heap.size (sgV sg.i C nn cc D mm dd).toArray rfl rfl 95 (sgV 0 none 0 0 none 0 0).toArray hst7 (size37 _ rfl) rfl (sg_one _ _ _ _ _ _ _) ?_; rw [← HW7.out]))
                exact ⟨rfl, HN.out⟩
              | true =>
                have he0 : er = 0 := by rw [Her.out]; unfold parS; rw [if_pos hf]
                have hk16 : ¬ key < 16 := fun h => hgood ⟨he0, h⟩
                subst he0
                have d6 : decide ((key : Int) ≥ 16) = true := decide_eq_true (by omega)
                have d7 : (16 : Int) ≤ (key : Int) := by omega
                go_wp2_with (first | (refine wpList_alloc0 rfl 95 rfl (sgV 0 none 0 0 none 0 0).toArray _ i37 hi37 hz37 rfl ?_; simp only [Act.put, List.setIfInBounds_toArray, List.set_cons_succ, List.set_cons_zero]) | (refine wpList_store_row rfl 95 (.tmp 7) (.tmp 43) rfl w6.heap.size (sgV sg.i C nn cc D mm dd).toArray rfl rfl 95 (sgV 0 none 0 0 none 0 0).toArray hst7 (size37 _ rfl) rfl (sg_one _ _ _ _ _ _ _) ?_; rw [← HW7.out]))
                exact ⟨rfl, HN.out⟩
          · have hno : key1 (ky :: t) = none := by
              simp only [key1]
              rw [← Hsz.out, if_neg (fun h => by omega)]
            exact ⟨rfl, Hbad.out w5 (HT.out.trans (.of_only (HO4.out.trans ho5))) ⟨_, _, _, _, (HO4.out.trans ho5).blk HP.out hne⟩ hno⟩
        · have d3 : decide ((t.length : Int) ≥ 2) = false := decide_eq_false (by omega)
          have d4 : ¬ (2 : Int) ≤ (t.length : Int) := by omega
          have hsz : size = 2146 := by
            rw [hsize]; unfold szK
            rw [if_neg h2]
          have Hsz2 := Lib.hid hsz
          subst hsz
          have h5' := take_any rb 2146 t w4 HS4.out (by omega)
          clear hsize h5 Hr4
          go_wp2_with fail
          refine h5'.mono ?_
          rintro e w5 ⟨⟨hle5, _⟩ | ⟨hlt5, rfl⟩, ho5⟩
          · omega
          · have hno : key1 (ky :: t) = none := by
              simp only [key1]
              rw [← Hsz.out, if_neg (fun h => by omega)]
            exact ⟨rfl, Hbad.out w5 (HT.out.trans (.of_only (HO4.out.trans ho5))) ⟨_, _, _, _, (HO4.out.trans ho5).blk HP.out hne⟩ hno⟩
      · have d0 : decide ((j : Int) < (m : Int)) = false := decide_eq_false (by omega)
        have hjm : j = m := by omega
        subst hjm
        obtain ⟨B, d, hv2, hd, _⟩ := Happ.out.rd
        have HA := Lib.hid (show AppZ wr B3 98 4 (.slice B j d) j (vs.flatMap kvC) from hv2 ▸ Happ.out)
        have HP' := Lib.hid (show Blk wr pb 39 (pkC k u (n : Int) nl nl (.slice A x.length c) (.slice B j d)).toArray from hv2 ▸ HP.out)
        have hxl : xs.length = j := (many_inv (f := key1) (g := bytK) (P := fun _ => True) (fun h => ⟨(key1_inv h).1, trivial⟩) _ HM.out).2.1
        have he := meta_end (N := n) Hl.out (show many key1 a.toNat t1 = some (xs, t) from Hm.out ▸ HM.out)
        rw [← Hm.out] at he
        have c2 : wr.cell? ⟨pb, 2, none⟩ = some (.int .i64 (n : Int)) := by rw [HP.out.cell]; rfl
        by_cases h16 : j ≤ 16
        · have d1 : decide ((j : Int) > 16) = false := decide_eq_false (by omega)
          have d2 : ¬ (16 : Int) < (j : Int) := by omega
          by_cases hn0 : n = 0
          · subst hn0
            have HF := Lib.hid (show MetaR rb pb k u 0 bs w (.returned (.tuple #[])) wr from by
              rw [if_pos ⟨h16, rfl⟩] at he
              unfold MetaR
              rw [he]
              refine ⟨⟨rfl, HS.out, A, B, c, d, ?_, hc, by rw [hxl]; exact hd, HR.out, ?_⟩, HT.out⟩
              · rw [hxl]; exact HP'.out
              · rw [hxl]; exact ⟨vs, HA.out.trd, HK.out⟩)
            clear Hn HA HP' HS HP Happ HR HT HM HK HOw he
            go_wp2_with fail
            refine bodyPost_end (results_none rfl _ _ _) rfl ?_
            exact HF.out
          · have hni : ¬ (n : Int) = 0 := by omega
            have HF := Lib.hid (Hn.out wr HT.out ⟨_, _, _, _, HP'.out⟩ (by rw [he, if_neg (fun h => hn0 h.2)]))
            clear Hn HA HP' HS HP Happ HR HT HM HK HOw he
            go_wp2_with fail
            exact ⟨rfl, HF.out⟩
        · have d1 : decide ((j : Int) > 16) = true := decide_eq_true (by omega)
          have d2 : (16 : Int) < (j : Int) := by omega
          have HF := Lib.hid (Hn.out wr HT.out ⟨_, _, _, _, HP'.out⟩ (by rw [he, if_neg (fun h => h16 h.1)]))
          clear Hn HA HP' HS HP Happ HR HT HM HK HOw he
          go_wp2_with fail
          exact ⟨rfl, HF.out⟩
end Go.Proofs.Yteofgkdpknaapaa
