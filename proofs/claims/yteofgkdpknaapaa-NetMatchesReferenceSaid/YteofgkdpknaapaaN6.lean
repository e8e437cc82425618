/- Package net: the reader's chunk. -/
import Derived.Test.YteofgkdpknaapaaN5
import Derived.Test.YteofgkdpknaapaaChain
namespace Go.Proofs.Yteofgkdpknaapaa
open Go.RowKit Go.Sort

/-- A packet's cells. -/
def pkC (k u n : Int) (vd vp vb vs : Value) : List Value := [.int .i64 k, .int .i64 u, .int .i64 n, vd, vp, vb, vs]
section
variable {w : World} {pb t : Nat} {k u n : Int} {vd vp vb vs : Value}
theorem pk_set (h : Blk w pb t (pkC k u n vd vp vb vs).toArray) (i : Nat) (v : Value) : Blk (w.setCell ⟨pb, i, none⟩ v) pb t ((pkC k u n vd vp vb vs).toArray.setIfInBounds i v) := heap_setCell_same w pb i _ t v h
theorem pk_set3 (h : Blk w pb t (pkC k u n vd vp vb vs).toArray) (v : Value) : Blk (w.setCell ⟨pb, 3, none⟩ v) pb t (pkC k u n v vp vb vs).toArray := pk_set h 3 v
theorem pk_set4 (h : Blk w pb t (pkC k u n vd vp vb vs).toArray) (v : Value) : Blk (w.setCell ⟨pb, 4, none⟩ v) pb t (pkC k u n vd v vb vs).toArray := pk_set h 4 v
theorem pk_set5 (h : Blk w pb t (pkC k u n vd vp vb vs).toArray) (v : Value) : Blk (w.setCell ⟨pb, 5, none⟩ v) pb t (pkC k u n vd vp v vs).toArray := pk_set h 5 v
theorem pk_set6 (h : Blk w pb t (pkC k u n vd vp vb vs).toArray) (v : Value) : Blk (w.setCell ⟨pb, 6, none⟩ v) pb t (pkC k u n vd vp vb v).toArray := pk_set h 6 v
end
/-- Blocks that were there are as before, but two. -/
def Two (rb pb : Nat) (w w' : World) : Prop := KeptIn (fun k => k ≠ rb ∧ k ≠ pb ∧ k < w.heap.size) w w'
theorem Two.trans {rb pb : Nat} {a b c : World} (h : Two rb pb a b) (k : Two rb pb b c) : Two rb pb a c :=
  KeptIn.trans h (KeptIn.mono k fun _ hk => ⟨hk.1, hk.2.1, Nat.lt_of_lt_of_le hk.2.2 h.size⟩)
theorem Two.of_only {rb pb : Nat} {w w' : World} (h : Only rb w w') : Two rb pb w w' := KeptIn.mono h fun _ hk => ⟨hk.1, hk.2.2⟩
theorem Two.set {rb pb i : Nat} (w : World) (v : Value) : Two rb pb w (w.setCell ⟨pb, i, none⟩ v) := (KeptIn.refl _ w).setAt (fun hk => hk.2.1 rfl) v
theorem Two.below {rb pb B : Nat} {w w' : World} (h : Two rb pb w w') (hB : B ≤ rb) (hP : B ≤ pb) (hw : B ≤ w.heap.size) : Below B w w' := KeptIn.below h fun k hk => ⟨by omega, by omega, by omega⟩
theorem Two.blk {rb pb B : Nat} {t : TypeId} {cs : Array Value} {w w' : World} (h : Two rb pb w w') (hb : Blk w B t cs) (h1 : B ≠ rb) (h2 : B ≠ pb) : Blk w' B t cs := hb.keptIn h ⟨h1, h2, hb.lt⟩
theorem RdS.only_blk {rb : Nat} {bs : List UInt8} {w : World} (h : RdS w rb bs) : ∃ cs, Blk w rb 79 cs := by
  obtain ⟨A, c, h1, _⟩ := h
  exact ⟨_, h1⟩
/-- Bytes lie in no packet's block. -/
theorem pk_ne {w : World} {pb t m : Nat} {A : Option Addr} {xs : List UInt8} {k u n : Int} {b1 b2 b3 b4 c1 c2 c3 c4 : Nat} {A1 A2 A3 A4 : Option Addr} (h : Rd w 1 A m (xs.map byteV)) (hb : Blk w pb t (pkC k u n (.slice A1 b1 c1) (.slice A2 b2 c2) (.slice A3 b3 c3) (.slice A4 b4 c4)).toArray) (h0 : 0 < m) {b off : Nat} (e : A = some ⟨b, off, none⟩) : b ≠ pb := by
  rintro rfl
  have hl := h.len1
  obtain ⟨b', off', e', hk⟩ := h.2.2 h0
  rw [e] at e'
  cases e'
  obtain ⟨x, hx⟩ : ∃ x, xs[0]? = some x := ⟨_, List.getElem?_eq_getElem (by omega)⟩
  have h1 := hk 0 (byteV x) (by rw [List.getElem?_map, hx]; rfl)
  rw [hb.cell] at h1
  rcases off with _ | _ | _ | _ | _ | _ | _ | off <;> simp [byteV, pkC] at h1
/-- The reader is as before where the packet is written. -/
theorem RdS.pk {rb pb i : Nat} {bs : List UInt8} {w : World} {k u n : Int} {b1 b2 b3 b4 c1 c2 c3 c4 : Nat} {A1 A2 A3 A4 : Option Addr} (h : RdS w rb bs) (hP : Blk w pb 39 (pkC k u n (.slice A1 b1 c1) (.slice A2 b2 c2) (.slice A3 b3 c3) (.slice A4 b4 c4)).toArray) (v : Value) : RdS (w.setCell ⟨pb, i, none⟩ v) rb bs := by
  obtain ⟨A, c, h1, h2, h3, h4⟩ := h
  have hk : KeptIn (fun k => k ≠ pb) w (w.setCell ⟨pb, i, none⟩ v) := (KeptIn.refl _ w).setAt (fun hk => hk rfl) v
  refine ⟨A, c, h1.keptIn hk (h1.ne hP (by decide)), h2, h3.keptIn hk (fun b off h0 e => pk_ne h3 hP h0 e), h4⟩
/-- The nil slice. -/
abbrev nl : Value := .slice none 0 0
theorem RdS.grown {rb : Nat} {bs : List UInt8} {w w' : World} {row : Option Nat} (h : RdS w rb bs) (hg : w.grownBy w' row) (hr : ∀ g, row = some g → rb < g) : RdS w' rb bs := by
  obtain ⟨A, c, h1, h2, h3, h4⟩ := h
  exact ⟨A, c, h1.kept hg (fun e => by have := hr rb e.symm; omega), h2, h3.kept hg (by omega) (fun b off h0 e er => by have h5 := hr b (by first | exact er | exact er.symm); have h6 := h4 h0 b off e; omega), h4⟩
theorem AppZ.only {rb base n sz : Nat} {e : TypeId} {v : Value} {xs : List Value} {w w' : World} (h : AppZ w base e sz v n xs) (ho : Only rb w w') (hlt : rb < base) : AppZ w' base e sz v n xs :=
  h.kept (⟨ho.os, ho.tape, ho.output, ho.size, fun k hk hne => ho.block k ⟨fun e => hne (by rw [e]), hk⟩⟩ : w.grownBy w' (some rb)) (by
    cases hv : v.ownBlock with
    | none => exact .inl rfl
    | some g =>
      right
      intro e
      have := (h.lt g hv).1
      cases e
      omega)
theorem TRd.keptOn {S : Nat → Prop} {w w' : World} {e : TypeId} {sz n : Nat} {A : Option Addr} {xs : List Value} (h : TRd w e sz A n xs) (hk : KeptIn S w w') (hS : 0 < n → ∀ b off, A = some ⟨b, off, none⟩ → S b) : TRd w' e sz A n xs :=
  ⟨h.1.keptIn hk (fun b off h0 ea => hS h0 b off ea), fun hn b off ea => by obtain ⟨cur, hc⟩ := h.2 hn b off ea; exact ⟨cur, hc.keptIn hk (hS hn b off ea)⟩⟩
/-- Where one is not read, more are not. -/
theorem many_none {α : Type} {f : List UInt8 → Rdr α} {n : Nat} {r : List UInt8} (h : many f n r = none) : ∀ k, many f (n + k) r = none
  | 0 => h
  | k + 1 => by
    show (many f (n + k) r).bind _ = none
    rw [many_none h k]
    rfl
theorem many_stop {α : Type} {f : List UInt8 → Rdr α} {j m : Nat} {r t : List UInt8} {xs : List α} (h : many f j r = some (xs, t)) (hf : f t = none) (hlt : j < m) : many f m r = none := by
  have h1 : many f (j + 1) r = none := by
    show (many f j r).bind _ = none
    rw [h]
    simp [hf]
  have := many_none h1 (m - (j + 1))
  rwa [show j + 1 + (m - (j + 1)) = m by omega] at this
theorem many_go {α : Type} {f : List UInt8 → Rdr α} {j : Nat} {r t t' : List UInt8} {xs : List α} {x : α} (h : many f j r = some (xs, t)) (hf : f t = some (x, t')) : many f (j + 1) r = some (xs ++ [x], t') := by
  show (many f j r).bind _ = _
  rw [h]
  simp [hf]
/-- The packet's cells, as far as they are known at a panic. -/
def PkAt (w : World) (pb : Nat) (k u n : Int) : Prop := ∃ (a b c d : Value), Blk w pb 39 (pkC k u n a b c d).toArray
/-- What chunk answers. -/
def ChunkR (rb pb : Nat) (k u n : Int) (bs : List UInt8) (w : World) (e : Ending) (w' : World) : Prop :=
  (match chunkR bs with
    | some (x, t) => e = .returned (.tuple #[]) ∧ RdS w' rb t ∧ ∃ (A B : Option Addr) (c d : Nat), Blk w' pb 39 (pkC k u n (.slice A x.1.length c) (.slice B x.2.length d) nl nl).toArray ∧ x.1.length ≤ c ∧ x.2.length ≤ d ∧ TRd w' 5 1 A x.1.length (x.1.map byteV) ∧ TRd w' 93 32 B x.2.length (x.2.flatMap sumC)
    | none => e = .panicked dmg ∧ PkAt w' pb k u n) ∧ Two rb pb w w'
set_option maxRecDepth 100000 in
set_option maxHeartbeats 1000000 in
theorem chunk_any (rb pb : Nat) (k u n : Int) (bs : List UInt8) (w : World) (hS : RdS w rb bs) (hP : Blk w pb 39 (pkC k u n nl nl nl nl).toArray) :
    Calls Try.prog 57 #[.pointer (some ⟨rb, 0, none⟩), .pointer (some ⟨pb, 0, none⟩)] w (ChunkR rb pb k u n bs w) := by
  have hne : pb ≠ rb := by obtain ⟨cs, h⟩ := hS.only_blk; exact hP.ne h (by decide)
  have h1 := list_any rb 1024 bs w hS (by omega)
  have HP := Lib.hid hP
  have Hn := Lib.hid (show ∀ w', Two rb pb w w' → PkAt w' pb k u n → chunkR bs = none → ChunkR rb pb k u n bs w (.panicked dmg) w' from fun w' h hp e => by unfold ChunkR; rw [e]; exact ⟨⟨rfl, hp⟩, h⟩)
  clear hS hP
  go_enter Try.func57, Try.ntmps57
  go_wp2_with fail
  refine h1.mono ?_
  rintro e w1 ⟨hm1, ho1⟩
  cases hl : lst 1024 bs with
  | none =>
    rw [hl] at hm1
    subst hm1
    exact ⟨rfl, Hn.out _ (.of_only ho1) ⟨_, _, _, _, ho1.blk HP.out hne⟩ (by unfold chunkR; rw [hl]; rfl)⟩
  | some xt =>
    obtain ⟨x, t1⟩ := xt
    rw [hl] at hm1
    obtain ⟨⟨A, c, rfl, hc, hr⟩, hS1⟩ := hm1
    have hP1 := ho1.blk HP.out hne
    have c3 : w1.cell? ⟨pb, 3, none⟩ = some nl := by rw [hP1.cell]; rfl
    have z3 := hP1.frozen 3
    have HS1 := Lib.hid hS1
    have HP1 := Lib.hid hP1
    have HR1 := Lib.hid hr
    have HT1 := Lib.hid (show Two rb pb w w1 from .of_only ho1)
    have Hl := Lib.hid hl
    clear hS1 hP1 hr ho1 h1 hl HP
    go_wp2_with fail
    obtain ⟨w2, hw2⟩ : ∃ v, v = w1.setCell ⟨pb, 3, none⟩ (.slice A x.length c) := ⟨_, rfl⟩
    rw [← hw2]
    have hS2 : RdS w2 rb t1 := by rw [hw2]; exact HS1.out.pk HP1.out _
    have hP2 : Blk w2 pb 39 (pkC k u n (.slice A x.length c) nl nl nl).toArray := by rw [hw2]; exact pk_set3 HP1.out _
    have ht2 : Two rb pb w1 w2 := by rw [hw2]; exact Two.set w1 _
    have hr2 : TRd w2 5 1 A x.length (x.map byteV) := by
      rw [hw2]
      exact HR1.out.keptIn ((KeptIn.refl (fun k => k ≠ pb) w1).setAt (fun hk => hk rfl) _) (fun b cur hb => hb.ne HP1.out (by decide))
    have HP2 := Lib.hid hP2
    have HR2 := Lib.hid hr2
    have HT2 := Lib.hid (HT1.out.trans ht2)
    have h2 := one_any rb t1 w2 hS2
    obtain ⟨_, hb2⟩ := hS2.only_blk
    clear hS2 hP2 ht2 hr2 hw2 HS1 HP1 HR1 HT1 c3 z3
    refine h2.mono ?_
    rintro e w3 ⟨hm2, ho2⟩
    rcases t1 with _ | ⟨a, t1⟩
    · cases hm2
      exact ⟨rfl, Hn.out _ (HT2.out.trans (.of_only ho2)) ⟨_, _, _, _, ho2.blk HP2.out hne⟩ (by unfold chunkR; rw [Hl.out]; rfl)⟩
    simp only [one] at hm2
    obtain ⟨rfl, hS3⟩ := hm2
    have hal := a.toNat_lt
    obtain ⟨m, hm⟩ : ∃ m, m = a.toNat := ⟨_, rfl⟩
    rw [← hm] at hal ⊢
    have hP3 := ho2.blk HP2.out hne
    have hr3 : TRd w3 5 1 A x.length (x.map byteV) := HR2.out.keptIn ho2 (fun b cur hb => ⟨hb.ne hb2 (by decide), hb.lt⟩)
    have HT3 := Lib.hid (HT2.out.trans (.of_only ho2))
    have HP3 := Lib.hid hP3
    have HR3 := Lib.hid hr3
    have HS3 := Lib.hid hS3
    have Hm := Lib.hid hm
    clear h2 ho2 hP3 hr3 hS3 hm HP2 HR2 HT2
    by_cases h8 : 8 < m
    · have d0 : decide (8 < (m : Int)) = true := decide_eq_true (by omega)
      have d1 : 8 < (m : Int) := by omega
      have HN := Lib.hid (Hn.out _ HT3.out ⟨_, _, _, _, HP3.out⟩ (by unfold chunkR; rw [Hl.out]; show (if 8 < a.toNat then none else _) = none; rw [if_pos (by rw [← Hm.out]; exact h8)]))
      clear Hn
      go_wp2_with fail
      exact ⟨rfl, HN.out⟩
    · have d0 : decide (8 < (m : Int)) = false := decide_eq_false (by omega)
      have d1 : ¬ 8 < (m : Int) := by omega
      go_wp2_with fail
      obtain ⟨B3, hB3⟩ : ∃ v, v = w3.heap.size := ⟨_, rfl⟩
      have hpb : pb < B3 := by rw [hB3]; exact HP3.out.lt
      have hrb : rb < B3 := by obtain ⟨_, h⟩ := HS3.out.only_blk; rw [hB3]; exact h.lt
      have hA0 : 0 < x.length → ∀ b off, A = some ⟨b, off, none⟩ → b < B3 := fun h0 b off e => by rw [hB3]; exact HR3.out.1.lt (by omega) h0 e
      have hwB : w.heap.size ≤ B3 := by rw [hB3]; exact HT3.out.size
      go_loopw [17] (fun v17 wr => ∃ j : Nat, v17 = .int .i64 (j : Int) ∧ j ≤ m ∧ ∃ (xs : List Sum32) (t : List UInt8) (v : Value), many sum1 j t1 = some (xs, t) ∧ RdS wr rb t ∧ (∃ A' n' c', v = .slice A' n' c') ∧ Blk wr pb 39 (pkC k u n (.slice A x.length c) v nl nl).toArray ∧ AppZ wr B3 93 32 v j (xs.flatMap sumC) ∧ TRd wr 5 1 A x.length (x.map byteV) ∧ Two rb pb w wr ∧ B3 ≤ wr.heap.size) (fun v17 _ => m - (intOf v17).toNat)
      case atStart => exact ⟨0, rfl, Nat.zero_le _, [], t1, nl, rfl, HS3.out, ⟨_, _, _, rfl⟩, HP3.out, AppZ.nil _, HR3.out, HT3.out, by omega⟩
      case round =>
        obtain ⟨j, rfl, hj, xs, t, v, hmany, hS, ⟨A', n', c', hv⟩, hP, happ, hr, hT, hB⟩ := hrel
        have HS := Lib.hid hS
        have HP := Lib.hid hP
        have Happ := Lib.hid happ
        have HR := Lib.hid hr
        have HT := Lib.hid hT
        have HM := Lib.hid hmany
        have HV := Lib.hid hv
        clear hS hP happ hr hT hmany hv HS3 HP3 HR3 HT3
        by_cases hlt : j < m
        · have d0 : decide ((j : Int) < (m : Int)) = true := decide_eq_true (by omega)
          have d2 : (j : Int) < (m : Int) := by omega
          obtain ⟨SS, hSS⟩ : ∃ SS : World → Prop, SS = fun W => KeptIn (fun k => k ≠ rb ∧ k < B3) wr W := ⟨_, rfl⟩
          have hst : SS wr.drew := by rw [hSS]; exact KeptIn.of_below ((Below.refl wr.heap.size wr).drew) fun k hk => by omega
          have hcl : ∀ W W', wr.heap.size ≤ W.heap.size → SS W → Below W.heap.size W W' → SS W' := fun W W' hs hW hb => by rw [hSS] at hW ⊢; exact hW.trans (KeptIn.of_below hb fun k hk => by omega)
          have hcell : ∀ W, SS W → W.cell? ⟨pb, 4, none⟩ = some (.slice A' n' c') := fun W hW => by
            rw [hSS] at hW
            have h := (HP.out.keptIn hW ⟨hne, hpb⟩)
            rw [h.cell, ← HV.out]; rfl
          have hv := HV.out
          subst hv
          go_upto_region 6 with fail
          refine wp_region_reads_tailN (S := SS) 13 [0, 1, 2, 3, 4, 5] 7 (by kernel_rfl) (List.take_append_drop _ _) rfl (by kernel_rfl) (by kernel_rfl) (by kernel_rfl) (by decide) (by kernel_rfl) (by kernel_rfl) (fun _ _ d _ _ h => by cases d <;> exact h) (by kernel_rfl) (by kernel_rfl) rfl hst ?_
          refine wpQuiet_val rfl (.pointer (some ⟨pb, 0, none⟩)) (fun W hW => by first | rfl | simp [execOp, go_sem]) ?_
          simp only [Act.put, List.setIfInBounds_toArray, List.set_cons_succ, List.set_cons_zero]
          refine wpQuiet_val rfl (.pointer (some ⟨pb, 0, none⟩)) (fun W hW => by first | rfl | simp [execOp, go_sem]) ?_
          simp only [Act.put, List.setIfInBounds_toArray, List.set_cons_succ, List.set_cons_zero]
          refine wpQuiet_val rfl (.pointer (some ⟨pb, 0, none⟩)) (fun W hW => by first | rfl | simp [execOp, go_sem]) ?_
          simp only [Act.put, List.setIfInBounds_toArray, List.set_cons_succ, List.set_cons_zero]
          refine wpQuiet_val rfl (.pointer (some ⟨pb, 4, none⟩)) (fun W hW => by simp [execOp, go_sem]) ?_
          simp only [Act.put, List.setIfInBounds_toArray, List.set_cons_succ, List.set_cons_zero]
          refine wpQuiet_val rfl (.slice A' n' c') (fun W hW => by have h := hcell W hW; simp [execOp, go_sem, h]) ?_
          simp only [Act.put, List.setIfInBounds_toArray, List.set_cons_succ, List.set_cons_zero]
          refine wpQuiet_val rfl (.pointer (some ⟨rb, 0, none⟩)) (fun W hW => by first | rfl | simp [execOp, go_sem]) ?_
          simp only [Act.put, List.setIfInBounds_toArray, List.set_cons_succ, List.set_cons_zero]
          refine wpQuiet_nil ?_
          obtain ⟨i32, hi32, hz32, hs32, hy32⟩ := info_parts info32
          have harr : Try.prog.underlying 93 = some (.array 32 5) := by kernel_rfl
          have hX : (t.take 32).map byteV = sumC (padS (t.take 32)) ∨ t.length < 32 := by
            rcases Nat.lt_or_ge t.length 32 with h | h
            · exact .inr h
            · left
              unfold sumC
              rw [show (padS (t.take 32)).1 = t.take 32 from padL_full (by rw [List.length_take]; omega)]
          have hSd : RdS wr.drew rb t := HS.out.only_below ((Below.refl wr.heap.size wr).drew)
          refine wpAnyH_val (i := 6) (by kernel_rfl) (by rfl) (by rfl) ?_
          refine val_callp 53 _ _ rfl (by kernel_rfl) [.pointer (some ⟨rb, 0, none⟩), .int .i64 ((32 : Nat) : Int)] rfl ((take_any rb 32 t wr.drew hSd (by omega)).mono ?_)
          rintro e W5 ⟨⟨h32, ⟨A5, c5, rfl, hc5, hr5, hb5⟩, hS5⟩ | ⟨hlt32, rfl⟩, ho5⟩
          all_goals replace ho5 : Only rb wr W5 := (Only.of_below ((Below.refl wr.heap.size wr).drew)).trans ho5
          · left
            have hS5s : SS W5 := by rw [hSS]; exact KeptIn.mono ho5 fun k hk => ⟨hk.1, by omega⟩
            refine ⟨_, rfl, hS5s, ?_⟩
            have hz5 := ho5.size
            replace hX := hX.resolve_right (by omega)
            obtain ⟨b5, o5, rfl, hk5⟩ := hr5.2.2 (by omega)
            simp only [Act.put, List.setIfInBounds_toArray, List.set_cons_succ, List.set_cons_zero]
            refine wpAnyH_val (i := 7) (by kernel_rfl) (by rfl) (by rfl) ?_
            refine valB (fun W' hb => hcl _ _ hz5 hS5s hb) ?_
            refine val_run (.pointer (some ⟨b5, o5, none⟩)) (by simp [execOp, go_sem, run_arrayAt _ 93 5 32 (some ⟨b5, o5, none⟩) 32 c5 harr (Nat.le_refl _)]) ?_
            simp only [Act.put, List.setIfInBounds_toArray, List.set_cons_succ, List.set_cons_zero]
            refine wpAnyH_val (i := 8) (by kernel_rfl) (by rfl) (by rfl) ?_
            refine valB (fun W' hb => hcl _ _ hz5 hS5s hb) ?_
            refine val_load_row 93 (.tmp 26) rfl b5 o5 rfl (sumC (padS (t.take 32))) _ (fun q u hq => hk5 q u (by rw [hX]; exact hq)) und32 rfl (by rw [sumC_len]; kernel_rfl) ?_
            simp only [Act.put, List.setIfInBounds_toArray, List.set_cons_succ, List.set_cons_zero]
            refine wpAnyH_val (i := 9) (by kernel_rfl) (by rfl) (by rfl) ?_
            refine valB (fun W' hb => hcl _ _ hz5 hS5s hb) ?_
            refine val_build1 rfl 34 93 (.tmp 27) rfl (sumC (padS (t.take 32))).toArray i32 _ 32 Try.underlying34 hi32 hz32 hs32 (by omega) (by decide) rfl (sum_size _) ?_
            obtain ⟨W6, hW6⟩ : ∃ v, v = W5.alloc (.cells (sumC (padS (t.take 32))).toArray 93) := ⟨_, rfl⟩
            rw [← hW6]
            have hb56 : Below W5.heap.size W5 W6 := by rw [hW6]; exact (Below.refl _ _).alloc (Nat.le_refl _) _
            have hX6 : Blk W6 W5.heap.size 93 (sumC (padS (t.take 32))).toArray := by rw [hW6]; exact Blk.new _ _ _
            have hS6s := hcl _ _ hz5 hS5s hb56
            have hz6 : wr.heap.size ≤ W6.heap.size := Nat.le_trans hz5 hb56.size
            have ha6 : AppZ W6 B3 93 32 (.slice A' n' c') j (xs.flatMap sumC) := (Happ.out.only ho5 hrb).below hb56 (Nat.le_refl _)
            have hS6 : RdS W6 rb (t.drop 32) := hS5.only_below hb56
            have hj8 : j < 8 := by omega
            simp only [Act.put, List.setIfInBounds_toArray, List.set_cons_succ, List.set_cons_zero]
            refine wpAnyH_val (i := 10) (by kernel_rfl) (by rfl) (by rfl) ?_
            refine val_appz rfl (.tmp 23) (.tmp 28) 34 rfl 93 i32 _ 32 32 Try.underlying34 hi32 hz32 hs32 hy32 rfl (by omega) B3 (by omega) (.slice A' n' c') j (xs.flatMap sumC) rfl ha6 (some ⟨W5.heap.size, 0, none⟩) 1 1 (sumC (padS (t.take 32))) rfl (rd32_one hX6) (oneB _) (by unfold maxLen; omega) (by omega) (fun v7 W7 ha7 hg7 => ?_)
            have hS7s : SS W7 := by
              rw [hSS] at hS6s ⊢
              exact hS6s.grown hg7 (fun k hk => by omega) (fun k e hk => by have := (ha6.lt k e).1; omega)
            have hz7 : wr.heap.size ≤ W7.heap.size := Nat.le_trans hz6 hg7.size
            have hS7 : RdS W7 rb (t.drop 32) := hS6.grown hg7 (fun g e => by have := (ha6.lt g e).1; omega)
            refine ⟨hS7s, ?_⟩
            simp only [Act.put, List.setIfInBounds_toArray, List.set_cons_succ, List.set_cons_zero]
            refine wpAnyH_val (i := 11) (by kernel_rfl) (by rfl) (by rfl) ?_
            refine valB (fun W' hb => hcl _ _ hz7 hS7s hb) ?_
            refine val_run (.pointer (some ⟨pb, 0, none⟩)) (by simp [execOp, go_sem]) ?_
            simp only [Act.put, List.setIfInBounds_toArray, List.set_cons_succ, List.set_cons_zero]
            refine wpAnyH_val (i := 12) (by kernel_rfl) (by rfl) (by rfl) ?_
            refine valB (fun W' hb => hcl _ _ hz7 hS7s hb) ?_
            refine val_run (.pointer (some ⟨pb, 4, none⟩)) (by simp [execOp, go_sem]) ?_
            simp only [Act.put, List.setIfInBounds_toArray, List.set_cons_succ, List.set_cons_zero]
            refine wpAnyH_done (by kernel_rfl) ?_
            rw [hSS] at hS7s
            have hP7 : Blk W7 pb 39 (pkC k u n (.slice A x.length c) (.slice A' n' c') nl nl).toArray := HP.out.keptIn hS7s ⟨hne, hpb⟩
            have hR7 : TRd W7 5 1 A x.length (x.map byteV) := HR.out.keptOn hS7s fun h0 b off e => ⟨by obtain ⟨cur, hc⟩ := HR.out.2 h0 b off e; obtain ⟨_, hb⟩ := HS.out.only_blk; exact hc.ne hb (by decide), hA0 h0 b off e⟩
            have hT7 : Two rb pb w W7 := KeptIn.trans HT.out (KeptIn.mono hS7s fun k hk => ⟨hk.1, by omega⟩)
            have c4 : W7.cell? ⟨pb, 4, none⟩ = some (.slice A' n' c') := by rw [hP7.cell]; rfl
            have z4 := hP7.frozen 4
            have hM7 := many_go HM.out (show sum1 t = some (padS (t.take 32), t.drop 32) by unfold sum1; rw [if_pos h32])
            obtain ⟨A7, c7, rfl, hc7, _⟩ := ha7.rd
            obtain ⟨W8, hW8⟩ : ∃ v, v = W7.setCell ⟨pb, 4, none⟩ (.slice A7 (j + 1) c7) := ⟨_, rfl⟩
            have H8 := Lib.hid (show RdS W8 rb (t.drop 32) ∧ Blk W8 pb 39 (pkC k u n (.slice A x.length c) (.slice A7 (j + 1) c7) nl nl).toArray ∧ AppZ W8 B3 93 32 (.slice A7 (j + 1) c7) (j + 1) ((xs ++ [padS (t.take 32)]).flatMap sumC) ∧ TRd W8 5 1 A x.length (x.map byteV) ∧ Two rb pb w W8 ∧ B3 ≤ W8.heap.size from by
              rw [hW8]
              refine ⟨hS7.pk hP7 _, pk_set4 hP7 _, ?_, hR7.keptOn ((KeptIn.refl (fun k => k ≠ pb) W7).setAt (fun hk => hk rfl) _) (fun h0 b off e => by obtain ⟨cur, hc⟩ := hR7.2 h0 b off e; exact hc.ne hP7 (by decide)), hT7.trans (Two.set W7 _), ?_⟩
              · rw [List.flatMap_append, show [padS (t.take 32)].flatMap sumC = sumC (padS (t.take 32)) by simp]
                exact ha7.setAt hP7 (by decide)
              · have := (Two.set (rb := rb) (pb := pb) (i := 4) W7 (.slice A7 (j + 1) c7)).size
                omega)
            have HM7 := Lib.hid hM7
            clear hS5 hS5s hr5 hX hk5 hb56 hX6 hS6s ha6 hS6 ha7 hg7 hS7s hS7 hP7 hR7 hT7 hM7 hSd hcell hcl hst hSS Hn HS HP Happ HR HT HM HV
            go_wp2_with fail
            rw [← hW8]
            obtain ⟨g1, g2, g3, g4, g5, g6⟩ := H8.out
            exact ⟨⟨j + 1, by push_cast; rfl, by omega, _, _, _, HM7.out, g1, ⟨_, _, _, rfl⟩, g2, g3, g4, g5, g6⟩, by simp only [intOf]; omega⟩
          · right
            refine ⟨_, rfl, ?_⟩
            have hno : chunkR bs = none := by
              unfold chunkR
              rw [Hl.out]
              show (if 8 < a.toNat then none else (many sum1 a.toNat t1).bind _) = _
              rw [← Hm.out, if_neg h8, many_stop HM.out (show sum1 t = none by unfold sum1; rw [if_neg (by omega)]) hlt]
              rfl
            exact ⟨rfl, Hn.out _ (HT.out.trans (.of_only ho5)) ⟨_, _, _, _, ho5.blk HP.out hne⟩ hno⟩
        · have d0 : decide ((j : Int) < (m : Int)) = false := decide_eq_false (by omega)
          have hjm : j = m := by omega
          subst hjm
          obtain ⟨B, d, hv2, hd, _⟩ := Happ.out.rd
          have HA := Lib.hid (show AppZ wr B3 93 32 (.slice B j d) j (xs.flatMap sumC) from hv2 ▸ Happ.out)
          have HP' := Lib.hid (show Blk wr pb 39 (pkC k u n (.slice A x.length c) (.slice B j d) nl nl).toArray from hv2 ▸ HP.out)
          have hxl : xs.length = j := (many_inv (f := sum1) (g := fun x => x.1) (P := fun _ => True) (fun h => ⟨sum1_inv h, trivial⟩) _ HM.out).2.1
          have HF := Lib.hid (show ChunkR rb pb k u n bs w (.returned (.tuple #[])) wr from by
            have e : chunkR bs = some ((x, xs), t) := by
              unfold chunkR
              rw [Hl.out]
              show (if 8 < a.toNat then none else (many sum1 a.toNat t1).bind _) = _
              rw [← Hm.out, if_neg h8, HM.out]
              rfl
            unfold ChunkR
            rw [e]
            refine ⟨⟨rfl, HS.out, A, B, c, d, ?_, hc, by rw [hxl]; exact hd, HR.out, ?_⟩, HT.out⟩
            · rw [hxl]; exact HP'.out
            · rw [hxl]; exact HA.out.trd)
          clear Hn HA HP' HS HP Happ HR HT HM
          go_wp2_with fail
          refine bodyPost_end (results_none rfl _ _ _) rfl ?_
          exact HF.out
end Go.Proofs.Yteofgkdpknaapaa
