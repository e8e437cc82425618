/- The fixed examples of chapter 31 come out as they should. -/
import Derived.Test.YteofgkdpknaapaaN31
import Derived.Test.YteofgkdpknaapaaN27
import Derived.Test.YteofgkdpknaapaaN25
namespace Go.Proofs.Yteofgkdpknaapaa
open Go.RowKit Go.Sort

theorem info30 : (Try.prog.info? 30).map (fun i => (i.zero, i.size, i.bytes)) = some (some (.agg #[.slice none 0 0]), 1, 24) := by kernel_rfl
def askV (k u n : Int) : Pv := ⟨k, u, n, none, 0, 0, none, 0, 0, none, 0, 0, none, 0, 0⟩
def askP (k u n : Int) : Pk := ⟨k, u, n, [], [], [], []⟩
theorem sgs_nil (w : World) : SgsAt w none 0 [] := SgsAt.nil _
theorem pv_ask (w : World) (k u n : Int) : PvOk w (askV k u n) (askP k u n) := ⟨⟨rfl, rfl, rfl⟩, ⟨Nat.le_refl _, Nat.le_refl _, Nat.le_refl _, Nat.le_refl _⟩, trd_nl _ _ _, trd_nl _ _ _, trd_nl _ _ _, sgs_nil w⟩
theorem ok_ask {k u n : Int} : okP (askP k u n) := ⟨by simp [askP], by simp [askP], by simp [askP]⟩
theorem ok_ask4 {k u n : Int} {x : Pk} (h : x ∈ [askP k u n]) : okP x := by
  rw [List.mem_singleton] at h
  rw [h]; exact ok_ask
theorem ask_valid : ∀ x ∈ [askP 3 2 5], validP x = true := fun x h => by
  rw [List.mem_singleton] at h
  rw [h]; decide
theorem pks_nil (w : World) : PksAt w none 0 [] := ⟨[], trd_nl _ _ _, PvsOk.nil _⟩
theorem pks_one {W : World} {B : Nat} {v : Pv} {p : Pk} (h : Blk W B 39 (pvC v).toArray) (hv : PvOk W v p) : PksAt W (some ⟨B, 0, none⟩) 1 [p] :=
  ⟨[v], ⟨rd7_one h, fun _ b off e => ⟨_, by cases e; exact h⟩⟩, PvsOk.snoc (PvsOk.nil _) hv⟩
theorem rd_newB (w : World) (T : TypeId) (n : Nat) {xs : List Value} (hn : xs.length = n) (hb : n ≤ 1000000) : Rd (w.alloc (.cells xs.toArray T)) 1 (some ⟨w.heap.size, 0, none⟩) n xs := by
  refine ⟨by rw [Nat.mul_one]; exact hn, by omega, fun _ => ⟨_, 0, rfl, fun j u hu => ?_⟩⟩
  rw [Nat.zero_add, (Blk.new w T xs.toArray).cell, List.getElem?_toArray]
  exact hu
def spBytes (bs : List UInt8) : Spec := ⟨fun v W => ∃ (A : Option Addr) (n c : Nat), v = .slice A n c ∧ Rd W 1 A n (bs.map byteV), fun _ _ _ ⟨A, n, c, h1, h2⟩ hb => ⟨A, n, c, h1, h2.below hb⟩⟩
def spPks (n : Nat) (ps : List Pk) : Spec := ⟨fun v W => ∃ A : Option Addr, v = .slice A n n ∧ PksAt W A n ps, fun _ _ _ ⟨A, h1, h2⟩ hb => ⟨A, h1, h2.below hb⟩⟩
def spNet (n c : Nat) (ps : List Pk) : Spec := ⟨fun v W => ∃ A : Option Addr, v = .agg #[.slice A n c] ∧ PksAt W A n ps, fun _ _ _ ⟨A, h1, h2⟩ hb => ⟨A, h1, h2.below hb⟩⟩
theorem val_build1g {Q : Exit → Act → World → Prop} {o : Oper} {a : Act} {R : Value → World → Prop} (x : Operand) (ho : o.op = .buildSlice 28 1 #[(0, x)]) (v : Pv) (hx : a.eval x = .agg (pvC v).toArray) (W : World)
    (h : R (.slice (some ⟨W.heap.size, 0, none⟩) 1 1) (W.alloc (.cells (pvC v).toArray 39))) : Val Try.prog Q o a W (fun v W' => Below W.heap.size W W' ∧ R v W') := by
  obtain ⟨i39, hi39, hz39, hs39, hy39⟩ := info_parts info39
  refine val_buildSlice 28 39 1 _ ho [(0, .agg (pvC v).toArray)] (by simp [hx]) (pvC v).toArray i39 _ 7 Try.underlying28 hi39 hz39 hs39 (by decide) (by decide) ?_ h
  have := Great.fill_whole (s := 7) (by decide) [.agg (pvC v).toArray] ((Array.range (1 * 7)).map ((Value.agg (pvC pv0).toArray).cells[· % (Value.agg (pvC pv0).toArray).cells.size]!)) (by simp [Value.cells, pvC_len]) (by simp)
  simpa [Value.cells] using this
theorem Send0_any (A : Option Addr) (n c : Nat) (ps : List Pk) (B : Option Addr) (m d : Nat) (qs : List Pk) (w : World) (h1 : PksAt w A n ps) (h2 : PksAt w B m qs) (hn : n ≤ 64) (hm : m ≤ 10000) (hmd : m ≤ d) :
    Calls Try.prog 20 #[.agg #[.slice A n c], .slice B m d] w (PksR (n + min m (64 - n)) (ps ++ qs.take (64 - n)) w) := Send_any A n c ps B m d qs w h1 h2 hn hm hmd
theorem Parse0_any (A : Option Addr) (L c : Nat) (bs : List UInt8) (p : Pk) (e : Int) (w : World) (hr : Rd w 1 A L (bs.map byteV)) (hlc : L ≤ c) (h : ansP bs = (p, e)) :
    Calls Try.prog 22 #[.slice A L c] w fun r w' => (∃ v : Pv, r = .returned (.tuple #[.agg (pvC v).toArray, .int .i64 e]) ∧ PvOk w' v p) ∧ Below w.heap.size w w' := by
  have := NParse_pv A L c bs w hr hlc
  rw [h] at this
  exact this
theorem Forge0_any (A : Option Addr) (n c : Nat) (ps : List Pk) (i a : Int) (y : Nat) (qs : List Pk) (e : Int) (w : World) (h : PksAt w A n ps) (hnc : n ≤ c) (hn : n ≤ 10000) (hval : ∀ x ∈ ps, validP x = true) (hf : y < 256 ∧ forgeP ps i a (UInt8.ofNat y) = (qs, e)) :
    Calls Try.prog 16 #[.agg #[.slice A n c], .int .i64 i, .int .i64 a, .int .u8 (y : Int)] w fun r w' => (∃ (A' : Option Addr) (N c' : Nat), r = .returned (.tuple #[.agg #[.slice A' N c'], .int .i64 e]) ∧ N ≤ c' ∧ PksAt w' A' N qs) ∧ Below w.heap.size w w' := by
  have := Forge_any A n c ps i a (UInt8.ofNat y) w h hnc hn hval
  rw [hf.2, UInt8.toNat_ofNat', Nat.mod_eq_of_lt hf.1] at this
  exact this
theorem Take0_any (A : Option Addr) (n c : Nat) (ps : List Pk) (i : Int) (p : Pk) (qs : List Pk) (e : Int) (w : World) (h : PksAt w A n ps) (hnc : n ≤ c) (hn : n ≤ 10000) (hf : takeP ps i = (p, qs, e)) :
    Calls Try.prog 12 #[.agg #[.slice A n c], .int .i64 i] w fun r w' => (∃ (v : Pv) (A' : Option Addr) (N c' : Nat), r = .returned (.tuple #[.agg (pvC v).toArray, .agg #[.slice A' N c'], .int .i64 e]) ∧ N ≤ c' ∧ PvOk w' v p ∧ PksAt w' A' N qs) ∧ Below w.heap.size w w' := by
  have := Take_any A n c ps i w h hnc hn
  unfold TakeQ at this
  rw [hf] at this
  exact this
theorem Double0_any (A : Option Addr) (n c : Nat) (ps : List Pk) (i : Int) (qs : List Pk) (e : Int) (w : World) (h : PksAt w A n ps) (hnc : n ≤ c) (hn : n ≤ 10000) (hf : doubleP ps i = (qs, e)) :
    Calls Try.prog 14 #[.agg #[.slice A n c], .int .i64 i] w fun r w' => (∃ (A' : Option Addr) (N c' : Nat), r = .returned (.tuple #[.agg #[.slice A' N c'], .int .i64 e]) ∧ N ≤ c' ∧ PksAt w' A' N qs) ∧ Below w.heap.size w w' := by
  have := Double_any A n c ps i w h hnc hn
  rw [hf] at this
  exact this
theorem NBytes0_any (v : Pv) (p : Pk) (bs : List UInt8) (w : World) (hv : PvOk w v p) (hp : validP p = true) (h : bytP p = bs) :
    Calls Try.prog 26 #[.agg (pvC v).toArray] w fun e w' => (∃ (A : Option Addr) (n c : Nat), e = .returned (.slice A n c) ∧ Rd w' 1 A n (bs.map byteV)) ∧ Below w.heap.size w w' := by
  refine (NBytes_any v p w hv hp).mono ?_
  rintro e w' ⟨⟨v', rfl, ha⟩, hb⟩
  obtain ⟨A, c, rfl, hc, hr⟩ := ha.rd
  rw [h] at hr
  exact ⟨⟨A, _, c, rfl, by rw [h]; exact hr⟩, hb⟩
set_option maxRecDepth 100000 in
set_option maxHeartbeats 4000000 in
theorem sanity_any (w : World) : Calls Try.prog 10 #[] w fun e w' => e = .returned (.bool true) ∧ Below w.heap.size w w' := by
  obtain ⟨i39, hi39, hz39, hs39, hy39⟩ := info_parts info39
  obtain ⟨i30, hi30, hz30, _, _⟩ := info_parts info30
  obtain ⟨i0, hi0, hz0, hz1, hz2⟩ := info_parts info5
  obtain ⟨d39, hd39, hrow39⟩ := und39
  obtain ⟨d30, hd30, hrow30⟩ := und30
  have HB := Lib.hid (Below.refl w.heap.size w)
  go_enter Try.func10, Try.ntmps10
  obtain ⟨v1a, hv1a⟩ : ∃ v, v = (w.alloc (.cells (pvC pv0).toArray 39)) := ⟨_, rfl⟩
  obtain ⟨X1, hX1⟩ : ∃ v, v = w.heap.size := ⟨_, rfl⟩
  have hNX1 : Blk (w.alloc (.cells (pvC pv0).toArray 39)) X1 39 (pvC pv0).toArray := by
    have := Blk.new w 39 (pvC pv0).toArray
    skip
    rw [hX1]; exact this
  rw [← hv1a] at hNX1
  have hbA : Below w.heap.size w v1a := by
    rw [hv1a]; exact (Below.refl _ _).alloc (by simp) _
  have HNX1 := Lib.hid hNX1
  have hkX1 := (KeptIn.refl (fun b => b ≠ X1) v1a).setRow (g := X1) (fun h => h rfl) (pvC (askV 3 2 5)).toArray
  replace hNX1 : Blk (v1a.setRow X1 (pvC (askV 3 2 5)).toArray) X1 39 (pvC (askV 3 2 5)).toArray := setRow_heap _ _ _ _ _ _ HNX1.out
  obtain ⟨v1, hv1⟩ : ∃ v, v = (v1a.setRow X1 (pvC (askV 3 2 5)).toArray) := ⟨_, rfl⟩
  have hbB : Below w.heap.size w v1 := by rw [hv1]; exact (Below.setRow hbA (show w.heap.size ≤ X1 by omega) _)
  rw [← hv1] at hNX1
  have HBX1 := Lib.hid hNX1
  have Hv1a := Lib.hid hv1a
  have Hv1 := Lib.hid hv1
  have HEX1 := Lib.hid hX1
  clear hNX1 hkX1 hv1a hv1 hbA
  have hlX1 : w.heap.size ≤ X1 := by have := HB.out.size; omega
  clear hX1
  go_upto_region 2 with (first | (refine wpList_alloc0 rfl 39 rfl (pvC pv0).toArray _ i39 hi39 hz39 rfl ?_; simp only [Act.put, List.setIfInBounds_toArray, List.set_cons_succ, List.set_cons_zero]; try simp only [World.size_alloc]) | (rw [← Hv1a.out, ← HEX1.out]; refine wpList_store_row rfl 39 (.tmp 1) (.tmp 23) rfl X1 (pvC (askV 3 2 5)).toArray rfl rfl 39 _ HNX1.out (size39 _ rfl) rfl (pv_row_one _) ?_; rw [← Hv1.out]) | (refine wpList_buildN rfl 39 _ rfl [(0, .int .i64 3), (1, .int .i64 2), (2, .int .i64 5)] rfl _ (built39p 3 2 5) ?_))
  replace HB := Lib.hid (HB.out.trans (hbB.mono HB.out.size))
  clear hbB
  clear HNX1 HEX1 Hv1a Hv1
  have Hk := Lib.hid (Blk.range HBX1.out)
  go_upto_region 3 with (first | (refine wpList_load_mid rfl 39 (.tmp 1) rfl X1 0 rfl (pvC (askV 3 2 5)) d39 Hk.out hd39 hrow39 (by rw [pvC_len]; kernel_rfl) ?_) | (refine wpList_buildN rfl 30 _ rfl [] rfl _ built30z ?_) | (refine wpList_build1s rfl 28 39 (.tmp 25) rfl (pvC (askV 3 2 5)).toArray i39 _ 7 Try.underlying28 hi39 hz39 hs39 (by omega) (by decide) rfl rfl ?_))
  clear Hk
  obtain ⟨v2b, hv2b⟩ : ∃ q, q = v1.heap.size := ⟨_, rfl⟩
  obtain ⟨v2, hv2⟩ : ∃ q, q = v1.alloc (.cells (pvC (askV 3 2 5)).toArray 39) := ⟨_, rfl⟩
  have hb_ : Below v1.heap.size v1 v2 := by rw [hv2]; exact (Below.refl _ _).alloc (Nat.le_refl _) _
  have hx_ : Blk v2 v2b 39 (pvC (askV 3 2 5)).toArray := by rw [hv2, hv2b]; exact Blk.new _ _ _
  rw [← hv2, ← hv2b]
  replace HB := Lib.hid (HB.out.trans (hb_.mono HB.out.size))
  replace HBX1 := Lib.hid (HBX1.out.below hb_ HBX1.out.lt)
  have Hq := Lib.hid (pks_one hx_ (pv_ask v2 3 2 5))
  clear hb_ hx_ hv2 hv2b
  refine (Send0_any none 0 0 [] (some ⟨v2b, 0, none⟩) 1 1 [askP 3 2 5] v2 (pks_nil _) Hq.out (by omega) (by omega) (by omega)).mono ?_
  rintro e v3 ⟨⟨A2, c2, rfl, hc2, hk2, _⟩, hb_⟩
  replace HB := Lib.hid (HB.out.trans (hb_.mono HB.out.size))
  replace HBX1 := Lib.hid (HBX1.out.below hb_ HBX1.out.lt)
  clear hb_
  have Hn := Lib.hid hk2
  clear hk2 Hq
  obtain ⟨v4a, hv4a⟩ : ∃ v, v = (v3.alloc (.cells #[.slice none 0 0] 30)) := ⟨_, rfl⟩
  obtain ⟨X2, hX2⟩ : ∃ v, v = v3.heap.size := ⟨_, rfl⟩
  have hNX2 : Blk (v3.alloc (.cells #[.slice none 0 0] 30)) X2 30 #[.slice none 0 0] := by
    have := Blk.new v3 30 #[.slice none 0 0]
    skip
    rw [hX2]; exact this
  rw [← hv4a] at hNX2
  have hbA : Below v3.heap.size v3 v4a := by
    rw [hv4a]; exact (Below.refl _ _).alloc (by simp) _
  have HNX2 := Lib.hid hNX2
  have hkX2 := (KeptIn.refl (fun b => b ≠ X2) v4a).setRow (g := X2) (fun h => h rfl) #[.slice A2 1 c2]
  replace hNX2 : Blk (v4a.setRow X2 #[.slice A2 1 c2]) X2 30 #[.slice A2 1 c2] := setRow_heap _ _ _ _ _ _ HNX2.out
  obtain ⟨v4, hv4⟩ : ∃ v, v = (v4a.setRow X2 #[.slice A2 1 c2]) := ⟨_, rfl⟩
  have hbB : Below v3.heap.size v3 v4 := by rw [hv4]; exact (Below.setRow hbA (show v3.heap.size ≤ X2 by omega) _)
  rw [← hv4] at hNX2
  have HBX2 := Lib.hid hNX2
  have Hv4a := Lib.hid hv4a
  have Hv4 := Lib.hid hv4
  have HEX2 := Lib.hid hX2
  clear hNX2 hkX2 hv4a hv4 hbA
  have hlX2 : w.heap.size ≤ X2 := by have := HB.out.size; omega
  have hoX1X2 : X1 < X2 := by have := HBX1.out.lt; omega
  clear hX2
  go_upto_region 3 with (first | (refine wpList_alloc0 rfl 30 rfl #[.slice none 0 0] _ i30 hi30 hz30 rfl ?_; simp only [Act.put, List.setIfInBounds_toArray, List.set_cons_succ, List.set_cons_zero]; try simp only [World.size_alloc]) | (rw [← Hv4a.out, ← HEX2.out]; refine wpList_store_row rfl 30 (.tmp 2) (.tmp 27) rfl X2 #[.slice A2 1 c2] rfl rfl 30 _ HNX2.out (size30 _ rfl) rfl (net_one _ _ _) ?_; rw [← Hv4.out]))
  replace HB := Lib.hid (HB.out.trans (hbB.mono HB.out.size))
  replace HBX1 := Lib.hid (HBX1.out.below hbB HBX1.out.lt)
  replace Hn := Lib.hid (Hn.out.below hbB)
  clear hbB
  clear HNX2 HEX2 Hv4a Hv4
  go_upto_region 4 with fail
  obtain ⟨v5, hv5⟩ : ∃ q, q = v4.alloc (.cells #[.int .u8 3, .int .u8 2, .int .u8 5] 5) := ⟨_, rfl⟩
  have hb_ : Below v4.heap.size v4 v5 := by rw [hv5]; exact (Below.refl _ _).alloc (Nat.le_refl _) _
  have hr_ : Rd v5 1 (some ⟨v4.heap.size, 0, none⟩) 3 (([3, 2, 5] : List UInt8).map byteV) := by rw [hv5]; exact rd_newB _ _ _ rfl (by decide)
  rw [← hv5]
  replace HB := Lib.hid (HB.out.trans (hb_.mono HB.out.size))
  replace HBX1 := Lib.hid (HBX1.out.below hb_ HBX1.out.lt)
  replace Hn := Lib.hid (Hn.out.below hb_)
  replace HBX2 := Lib.hid (HBX2.out.below hb_ HBX2.out.lt)
  have Hbs := Lib.hid hr_
  clear hb_ hr_ hv5
  refine (Parse0_any (some ⟨v4.heap.size, 0, none⟩) 3 3 [3, 2, 5] (askP 3 2 5) 0 v5 Hbs.out (Nat.le_refl _) (by decide +kernel)).mono ?_
  rintro e v6 ⟨⟨X3v, rfl, hp_⟩, hb_⟩
  replace HB := Lib.hid (HB.out.trans (hb_.mono HB.out.size))
  replace HBX1 := Lib.hid (HBX1.out.below hb_ HBX1.out.lt)
  replace Hn := Lib.hid (Hn.out.below hb_)
  replace HBX2 := Lib.hid (HBX2.out.below hb_ HBX2.out.lt)
  clear hb_
  have HPX3 := Lib.hid hp_
  clear hp_ Hbs
  obtain ⟨v7a, hv7a⟩ : ∃ v, v = (v6.alloc (.cells (pvC pv0).toArray 39)) := ⟨_, rfl⟩
  obtain ⟨X3, hX3⟩ : ∃ v, v = v6.heap.size := ⟨_, rfl⟩
  have hNX3 : Blk (v6.alloc (.cells (pvC pv0).toArray 39)) X3 39 (pvC pv0).toArray := by
    have := Blk.new v6 39 (pvC pv0).toArray
    skip
    rw [hX3]; exact this
  rw [← hv7a] at hNX3
  have hbA : Below v6.heap.size v6 v7a := by
    rw [hv7a]; exact (Below.refl _ _).alloc (by simp) _
  have HNX3 := Lib.hid hNX3
  have hkX3 := (KeptIn.refl (fun b => b ≠ X3) v7a).setRow (g := X3) (fun h => h rfl) (pvC X3v).toArray
  replace hNX3 : Blk (v7a.setRow X3 (pvC X3v).toArray) X3 39 (pvC X3v).toArray := setRow_heap _ _ _ _ _ _ HNX3.out
  obtain ⟨v7, hv7⟩ : ∃ v, v = (v7a.setRow X3 (pvC X3v).toArray) := ⟨_, rfl⟩
  have hbB : Below v6.heap.size v6 v7 := by rw [hv7]; exact (Below.setRow hbA (show v6.heap.size ≤ X3 by omega) _)
  rw [← hv7] at hNX3
  have HBX3 := Lib.hid hNX3
  have Hv7a := Lib.hid hv7a
  have Hv7 := Lib.hid hv7
  have HEX3 := Lib.hid hX3
  clear hNX3 hkX3 hv7a hv7 hbA
  have hlX3 : w.heap.size ≤ X3 := by have := HB.out.size; omega
  have hoX1X3 : X1 < X3 := by have := HBX1.out.lt; omega
  have hoX2X3 : X2 < X3 := by have := HBX2.out.lt; omega
  clear hX3
  go_upto_region 4 with (first | (refine wpList_alloc0 rfl 39 rfl (pvC pv0).toArray _ i39 hi39 hz39 rfl ?_; simp only [Act.put, List.setIfInBounds_toArray, List.set_cons_succ, List.set_cons_zero]; try simp only [World.size_alloc]) | (rw [← Hv7a.out, ← HEX3.out]; refine wpList_store_row rfl 39 (.tmp 3) (.tmp 31) rfl X3 (pvC X3v).toArray rfl rfl 39 _ HNX3.out (size39 _ rfl) rfl (pv_row_one _) ?_; rw [← Hv7.out]))
  replace HB := Lib.hid (HB.out.trans (hbB.mono HB.out.size))
  replace HBX1 := Lib.hid (HBX1.out.below hbB HBX1.out.lt)
  replace Hn := Lib.hid (Hn.out.below hbB)
  replace HBX2 := Lib.hid (HBX2.out.below hbB HBX2.out.lt)
  replace HPX3 := Lib.hid (HPX3.out.below hbB)
  clear hbB
  clear HNX3 HEX3 Hv7a Hv7
  go_upto_region 5 with fail
  obtain ⟨v8, hv8⟩ : ∃ q, q = v7.alloc (.cells #[.int .u8 1, .int .u8 2, .int .u8 5] 5) := ⟨_, rfl⟩
  have hb_ : Below v7.heap.size v7 v8 := by rw [hv8]; exact (Below.refl _ _).alloc (Nat.le_refl _) _
  have hr_ : Rd v8 1 (some ⟨v7.heap.size, 0, none⟩) 3 (([1, 2, 5] : List UInt8).map byteV) := by rw [hv8]; exact rd_newB _ _ _ rfl (by decide)
  rw [← hv8]
  replace HB := Lib.hid (HB.out.trans (hb_.mono HB.out.size))
  replace HBX1 := Lib.hid (HBX1.out.below hb_ HBX1.out.lt)
  replace Hn := Lib.hid (Hn.out.below hb_)
  replace HBX2 := Lib.hid (HBX2.out.below hb_ HBX2.out.lt)
  replace HPX3 := Lib.hid (HPX3.out.below hb_)
  replace HBX3 := Lib.hid (HBX3.out.below hb_ HBX3.out.lt)
  have Hbs := Lib.hid hr_
  clear hb_ hr_ hv8
  refine (Parse0_any (some ⟨v7.heap.size, 0, none⟩) 3 3 [1, 2, 5] pk0 310 v8 Hbs.out (Nat.le_refl _) (by decide +kernel)).mono ?_
  rintro e v9 ⟨⟨X5v, rfl, hp_⟩, hb_⟩
  replace HB := Lib.hid (HB.out.trans (hb_.mono HB.out.size))
  replace HBX1 := Lib.hid (HBX1.out.below hb_ HBX1.out.lt)
  replace Hn := Lib.hid (Hn.out.below hb_)
  replace HBX2 := Lib.hid (HBX2.out.below hb_ HBX2.out.lt)
  replace HPX3 := Lib.hid (HPX3.out.below hb_)
  replace HBX3 := Lib.hid (HBX3.out.below hb_ HBX3.out.lt)
  clear hb_
  have HPX5 := Lib.hid hp_
  clear hp_ Hbs
  obtain ⟨v10a, hv10a⟩ : ∃ v, v = (v9.alloc (.cells (pvC pv0).toArray 39)) := ⟨_, rfl⟩
  obtain ⟨X5, hX5⟩ : ∃ v, v = v9.heap.size := ⟨_, rfl⟩
  have hNX5 : Blk (v9.alloc (.cells (pvC pv0).toArray 39)) X5 39 (pvC pv0).toArray := by
    have := Blk.new v9 39 (pvC pv0).toArray
    skip
    rw [hX5]; exact this
  rw [← hv10a] at hNX5
  have hbA : Below v9.heap.size v9 v10a := by
    rw [hv10a]; exact (Below.refl _ _).alloc (by simp) _
  have HNX5 := Lib.hid hNX5
  have hkX5 := (KeptIn.refl (fun b => b ≠ X5) v10a).setRow (g := X5) (fun h => h rfl) (pvC X5v).toArray
  replace hNX5 : Blk (v10a.setRow X5 (pvC X5v).toArray) X5 39 (pvC X5v).toArray := setRow_heap _ _ _ _ _ _ HNX5.out
  obtain ⟨v10, hv10⟩ : ∃ v, v = (v10a.setRow X5 (pvC X5v).toArray) := ⟨_, rfl⟩
  have hbB : Below v9.heap.size v9 v10 := by rw [hv10]; exact (Below.setRow hbA (show v9.heap.size ≤ X5 by omega) _)
  rw [← hv10] at hNX5
  have HBX5 := Lib.hid hNX5
  have Hv10a := Lib.hid hv10a
  have Hv10 := Lib.hid hv10
  have HEX5 := Lib.hid hX5
  clear hNX5 hkX5 hv10a hv10 hbA
  have hlX5 : w.heap.size ≤ X5 := by have := HB.out.size; omega
  have hoX1X5 : X1 < X5 := by have := HBX1.out.lt; omega
  have hoX2X5 : X2 < X5 := by have := HBX2.out.lt; omega
  have hoX3X5 : X3 < X5 := by have := HBX3.out.lt; omega
  clear hX5
  go_upto_region 5 with (first | (refine wpList_alloc0 rfl 39 rfl (pvC pv0).toArray _ i39 hi39 hz39 rfl ?_; simp only [Act.put, List.setIfInBounds_toArray, List.set_cons_succ, List.set_cons_zero]; try simp only [World.size_alloc]) | (rw [← Hv10a.out, ← HEX5.out]; refine wpList_store_row rfl 39 (.tmp 5) (.tmp 36) rfl X5 (pvC X5v).toArray rfl rfl 39 _ HNX5.out (size39 _ rfl) rfl (pv_row_one _) ?_; rw [← Hv10.out]))
  replace HB := Lib.hid (HB.out.trans (hbB.mono HB.out.size))
  replace HBX1 := Lib.hid (HBX1.out.below hbB HBX1.out.lt)
  replace Hn := Lib.hid (Hn.out.below hbB)
  replace HBX2 := Lib.hid (HBX2.out.below hbB HBX2.out.lt)
  replace HPX3 := Lib.hid (HPX3.out.below hbB)
  replace HBX3 := Lib.hid (HBX3.out.below hbB HBX3.out.lt)
  replace HPX5 := Lib.hid (HPX5.out.below hbB)
  clear hbB
  clear HNX5 HEX5 Hv10a Hv10
  clear HBX5 HPX5
  go_upto_region 6 with fail
  refine (Parse0_any none 0 0 [] pk0 310 v10 (Rd.nil _ _ _) (Nat.le_refl _) (by decide +kernel)).mono ?_
  rintro e v11 ⟨⟨X7v, rfl, hp_⟩, hb_⟩
  replace HB := Lib.hid (HB.out.trans (hb_.mono HB.out.size))
  replace HBX1 := Lib.hid (HBX1.out.below hb_ HBX1.out.lt)
  replace Hn := Lib.hid (Hn.out.below hb_)
  replace HBX2 := Lib.hid (HBX2.out.below hb_ HBX2.out.lt)
  replace HPX3 := Lib.hid (HPX3.out.below hb_)
  replace HBX3 := Lib.hid (HBX3.out.below hb_ HBX3.out.lt)
  clear hb_
  have HPX7 := Lib.hid hp_
  clear hp_
  obtain ⟨v12a, hv12a⟩ : ∃ v, v = (v11.alloc (.cells (pvC pv0).toArray 39)) := ⟨_, rfl⟩
  obtain ⟨X7, hX7⟩ : ∃ v, v = v11.heap.size := ⟨_, rfl⟩
  have hNX7 : Blk (v11.alloc (.cells (pvC pv0).toArray 39)) X7 39 (pvC pv0).toArray := by
    have := Blk.new v11 39 (pvC pv0).toArray
    skip
    rw [hX7]; exact this
  rw [← hv12a] at hNX7
  have hbA : Below v11.heap.size v11 v12a := by
    rw [hv12a]; exact (Below.refl _ _).alloc (by simp) _
  have HNX7 := Lib.hid hNX7
  have hkX7 := (KeptIn.refl (fun b => b ≠ X7) v12a).setRow (g := X7) (fun h => h rfl) (pvC X7v).toArray
  replace hNX7 : Blk (v12a.setRow X7 (pvC X7v).toArray) X7 39 (pvC X7v).toArray := setRow_heap _ _ _ _ _ _ HNX7.out
  obtain ⟨v12, hv12⟩ : ∃ v, v = (v12a.setRow X7 (pvC X7v).toArray) := ⟨_, rfl⟩
  have hbB : Below v11.heap.size v11 v12 := by rw [hv12]; exact (Below.setRow hbA (show v11.heap.size ≤ X7 by omega) _)
  rw [← hv12] at hNX7
  have HBX7 := Lib.hid hNX7
  have Hv12a := Lib.hid hv12a
  have Hv12 := Lib.hid hv12
  have HEX7 := Lib.hid hX7
  clear hNX7 hkX7 hv12a hv12 hbA
  have hlX7 : w.heap.size ≤ X7 := by have := HB.out.size; omega
  have hoX1X7 : X1 < X7 := by have := HBX1.out.lt; omega
  have hoX2X7 : X2 < X7 := by have := HBX2.out.lt; omega
  have hoX3X7 : X3 < X7 := by have := HBX3.out.lt; omega
  clear hX7
  go_upto_region 6 with (first | (refine wpList_alloc0 rfl 39 rfl (pvC pv0).toArray _ i39 hi39 hz39 rfl ?_; simp only [Act.put, List.setIfInBounds_toArray, List.set_cons_succ, List.set_cons_zero]; try simp only [World.size_alloc]) | (rw [← Hv12a.out, ← HEX7.out]; refine wpList_store_row rfl 39 (.tmp 7) (.tmp 40) rfl X7 (pvC X7v).toArray rfl rfl 39 _ HNX7.out (size39 _ rfl) rfl (pv_row_one _) ?_; rw [← Hv12.out]))
  replace HB := Lib.hid (HB.out.trans (hbB.mono HB.out.size))
  replace HBX1 := Lib.hid (HBX1.out.below hbB HBX1.out.lt)
  replace Hn := Lib.hid (Hn.out.below hbB)
  replace HBX2 := Lib.hid (HBX2.out.below hbB HBX2.out.lt)
  replace HPX3 := Lib.hid (HPX3.out.below hbB)
  replace HBX3 := Lib.hid (HBX3.out.below hbB HBX3.out.lt)
  replace HPX7 := Lib.hid (HPX7.out.below hbB)
  clear hbB
  clear HNX7 HEX7 Hv12a Hv12
  clear HBX7 HPX7
  have Hk := Lib.hid (Blk.range HBX2.out)
  go_upto_region 7 with (refine wpList_load_mid rfl 30 (.tmp 2) rfl X2 0 rfl [.slice A2 1 c2] d30 Hk.out hd30 hrow30 (by skip; kernel_rfl) ?_)
  clear Hk
  refine (Forge0_any A2 1 c2 [askP 3 2 5] 0 0 2 [] 0 v12 Hn.out hc2 (by omega) ask_valid (by decide +kernel)).mono ?_
  rintro e v13 ⟨⟨X9A, X9n, X9c, rfl, hX9c, hp_⟩, hb_⟩
  replace HB := Lib.hid (HB.out.trans (hb_.mono HB.out.size))
  replace HBX1 := Lib.hid (HBX1.out.below hb_ HBX1.out.lt)
  replace Hn := Lib.hid (Hn.out.below hb_)
  replace HBX2 := Lib.hid (HBX2.out.below hb_ HBX2.out.lt)
  replace HPX3 := Lib.hid (HPX3.out.below hb_)
  replace HBX3 := Lib.hid (HBX3.out.below hb_ HBX3.out.lt)
  clear hb_
  have HPX9 := Lib.hid hp_
  clear hp_
  obtain ⟨v14a, hv14a⟩ : ∃ v, v = (v13.alloc (.cells #[.slice none 0 0] 30)) := ⟨_, rfl⟩
  obtain ⟨X9, hX9⟩ : ∃ v, v = v13.heap.size := ⟨_, rfl⟩
  have hNX9 : Blk (v13.alloc (.cells #[.slice none 0 0] 30)) X9 30 #[.slice none 0 0] := by
    have := Blk.new v13 30 #[.slice none 0 0]
    skip
    rw [hX9]; exact this
  rw [← hv14a] at hNX9
  have hbA : Below v13.heap.size v13 v14a := by
    rw [hv14a]; exact (Below.refl _ _).alloc (by simp) _
  have HNX9 := Lib.hid hNX9
  have hkX9 := (KeptIn.refl (fun b => b ≠ X9) v14a).setRow (g := X9) (fun h => h rfl) #[.slice X9A X9n X9c]
  replace hNX9 : Blk (v14a.setRow X9 #[.slice X9A X9n X9c]) X9 30 #[.slice X9A X9n X9c] := setRow_heap _ _ _ _ _ _ HNX9.out
  obtain ⟨v14, hv14⟩ : ∃ v, v = (v14a.setRow X9 #[.slice X9A X9n X9c]) := ⟨_, rfl⟩
  have hbB : Below v13.heap.size v13 v14 := by rw [hv14]; exact (Below.setRow hbA (show v13.heap.size ≤ X9 by omega) _)
  rw [← hv14] at hNX9
  have HBX9 := Lib.hid hNX9
  have Hv14a := Lib.hid hv14a
  have Hv14 := Lib.hid hv14
  have HEX9 := Lib.hid hX9
  clear hNX9 hkX9 hv14a hv14 hbA
  have hlX9 : w.heap.size ≤ X9 := by have := HB.out.size; omega
  have hoX1X9 : X1 < X9 := by have := HBX1.out.lt; omega
  have hoX2X9 : X2 < X9 := by have := HBX2.out.lt; omega
  have hoX3X9 : X3 < X9 := by have := HBX3.out.lt; omega
  clear hX9
  go_upto_region 7 with (first | (refine wpList_alloc0 rfl 30 rfl #[.slice none 0 0] _ i30 hi30 hz30 rfl ?_; simp only [Act.put, List.setIfInBounds_toArray, List.set_cons_succ, List.set_cons_zero]; try simp only [World.size_alloc]) | (rw [← Hv14a.out, ← HEX9.out]; refine wpList_store_row rfl 30 (.tmp 9) (.tmp 45) rfl X9 #[.slice X9A X9n X9c] rfl rfl 30 _ HNX9.out (size30 _ rfl) rfl (net_one _ _ _) ?_; rw [← Hv14.out]))
  replace HB := Lib.hid (HB.out.trans (hbB.mono HB.out.size))
  replace HBX1 := Lib.hid (HBX1.out.below hbB HBX1.out.lt)
  replace Hn := Lib.hid (Hn.out.below hbB)
  replace HBX2 := Lib.hid (HBX2.out.below hbB HBX2.out.lt)
  replace HPX3 := Lib.hid (HPX3.out.below hbB)
  replace HBX3 := Lib.hid (HBX3.out.below hbB HBX3.out.lt)
  replace HPX9 := Lib.hid (HPX9.out.below hbB)
  clear hbB
  clear HNX9 HEX9 Hv14a Hv14
  have Hk := Lib.hid (Blk.range HBX2.out)
  go_upto_region 8 with (refine wpList_load_mid rfl 30 (.tmp 2) rfl X2 0 rfl [.slice A2 1 c2] d30 Hk.out hd30 hrow30 (by skip; kernel_rfl) ?_)
  clear Hk
  refine (Forge0_any A2 1 c2 [askP 3 2 5] 0 2 1 [askP 3 2 4] 0 v14 Hn.out hc2 (by omega) ask_valid (by decide +kernel)).mono ?_
  rintro e v15 ⟨⟨X11A, X11n, X11c, rfl, hX11c, hp_⟩, hb_⟩
  replace HB := Lib.hid (HB.out.trans (hb_.mono HB.out.size))
  replace HBX1 := Lib.hid (HBX1.out.below hb_ HBX1.out.lt)
  replace Hn := Lib.hid (Hn.out.below hb_)
  replace HBX2 := Lib.hid (HBX2.out.below hb_ HBX2.out.lt)
  replace HPX3 := Lib.hid (HPX3.out.below hb_)
  replace HBX3 := Lib.hid (HBX3.out.below hb_ HBX3.out.lt)
  replace HPX9 := Lib.hid (HPX9.out.below hb_)
  replace HBX9 := Lib.hid (HBX9.out.below hb_ HBX9.out.lt)
  clear hb_
  have HPX11 := Lib.hid hp_
  clear hp_
  obtain ⟨v16a, hv16a⟩ : ∃ v, v = (v15.alloc (.cells #[.slice none 0 0] 30)) := ⟨_, rfl⟩
  obtain ⟨X11, hX11⟩ : ∃ v, v = v15.heap.size := ⟨_, rfl⟩
  have hNX11 : Blk (v15.alloc (.cells #[.slice none 0 0] 30)) X11 30 #[.slice none 0 0] := by
    have := Blk.new v15 30 #[.slice none 0 0]
    skip
    rw [hX11]; exact this
  rw [← hv16a] at hNX11
  have hbA : Below v15.heap.size v15 v16a := by
    rw [hv16a]; exact (Below.refl _ _).alloc (by simp) _
  have HNX11 := Lib.hid hNX11
  have hkX11 := (KeptIn.refl (fun b => b ≠ X11) v16a).setRow (g := X11) (fun h => h rfl) #[.slice X11A X11n X11c]
  replace hNX11 : Blk (v16a.setRow X11 #[.slice X11A X11n X11c]) X11 30 #[.slice X11A X11n X11c] := setRow_heap _ _ _ _ _ _ HNX11.out
  obtain ⟨v16, hv16⟩ : ∃ v, v = (v16a.setRow X11 #[.slice X11A X11n X11c]) := ⟨_, rfl⟩
  have hbB : Below v15.heap.size v15 v16 := by rw [hv16]; exact (Below.setRow hbA (show v15.heap.size ≤ X11 by omega) _)
  rw [← hv16] at hNX11
  have HBX11 := Lib.hid hNX11
  have Hv16a := Lib.hid hv16a
  have Hv16 := Lib.hid hv16
  have HEX11 := Lib.hid hX11
  clear hNX11 hkX11 hv16a hv16 hbA
  have hlX11 : w.heap.size ≤ X11 := by have := HB.out.size; omega
  have hoX1X11 : X1 < X11 := by have := HBX1.out.lt; omega
  have hoX2X11 : X2 < X11 := by have := HBX2.out.lt; omega
  have hoX3X11 : X3 < X11 := by have := HBX3.out.lt; omega
  have hoX9X11 : X9 < X11 := by have := HBX9.out.lt; omega
  clear hX11
  go_upto_region 8 with (first | (refine wpList_alloc0 rfl 30 rfl #[.slice none 0 0] _ i30 hi30 hz30 rfl ?_; simp only [Act.put, List.setIfInBounds_toArray, List.set_cons_succ, List.set_cons_zero]; try simp only [World.size_alloc]) | (rw [← Hv16a.out, ← HEX11.out]; refine wpList_store_row rfl 30 (.tmp 11) (.tmp 50) rfl X11 #[.slice X11A X11n X11c] rfl rfl 30 _ HNX11.out (size30 _ rfl) rfl (net_one _ _ _) ?_; rw [← Hv16.out]))
  replace HB := Lib.hid (HB.out.trans (hbB.mono HB.out.size))
  replace HBX1 := Lib.hid (HBX1.out.below hbB HBX1.out.lt)
  replace Hn := Lib.hid (Hn.out.below hbB)
  replace HBX2 := Lib.hid (HBX2.out.below hbB HBX2.out.lt)
  replace HPX3 := Lib.hid (HPX3.out.below hbB)
  replace HBX3 := Lib.hid (HBX3.out.below hbB HBX3.out.lt)
  replace HPX9 := Lib.hid (HPX9.out.below hbB)
  replace HBX9 := Lib.hid (HBX9.out.below hbB HBX9.out.lt)
  replace HPX11 := Lib.hid (HPX11.out.below hbB)
  clear hbB
  clear HNX11 HEX11 Hv16a Hv16
  have Hk := Lib.hid (Blk.range HBX2.out)
  go_upto_region 9 with (refine wpList_load_mid rfl 30 (.tmp 2) rfl X2 0 rfl [.slice A2 1 c2] d30 Hk.out hd30 hrow30 (by skip; kernel_rfl) ?_)
  clear Hk
  refine (Forge0_any A2 1 c2 [askP 3 2 5] 0 3 1 [askP 3 2 5] 1 v16 Hn.out hc2 (by omega) ask_valid (by decide +kernel)).mono ?_
  rintro e v17 ⟨⟨X13A, X13n, X13c, rfl, hX13c, hp_⟩, hb_⟩
  replace HB := Lib.hid (HB.out.trans (hb_.mono HB.out.size))
  replace HBX1 := Lib.hid (HBX1.out.below hb_ HBX1.out.lt)
  replace Hn := Lib.hid (Hn.out.below hb_)
  replace HBX2 := Lib.hid (HBX2.out.below hb_ HBX2.out.lt)
  replace HPX3 := Lib.hid (HPX3.out.below hb_)
  replace HBX3 := Lib.hid (HBX3.out.below hb_ HBX3.out.lt)
  replace HPX9 := Lib.hid (HPX9.out.below hb_)
  replace HBX9 := Lib.hid (HBX9.out.below hb_ HBX9.out.lt)
  replace HPX11 := Lib.hid (HPX11.out.below hb_)
  replace HBX11 := Lib.hid (HBX11.out.below hb_ HBX11.out.lt)
  clear hb_
  have HPX13 := Lib.hid hp_
  clear hp_
  obtain ⟨v18a, hv18a⟩ : ∃ v, v = (v17.alloc (.cells #[.slice none 0 0] 30)) := ⟨_, rfl⟩
  obtain ⟨X13, hX13⟩ : ∃ v, v = v17.heap.size := ⟨_, rfl⟩
  have hNX13 : Blk (v17.alloc (.cells #[.slice none 0 0] 30)) X13 30 #[.slice none 0 0] := by
    have := Blk.new v17 30 #[.slice none 0 0]
    skip
    rw [hX13]; exact this
  rw [← hv18a] at hNX13
  have hbA : Below v17.heap.size v17 v18a := by
    rw [hv18a]; exact (Below.refl _ _).alloc (by simp) _
  have HNX13 := Lib.hid hNX13
  have hkX13 := (KeptIn.refl (fun b => b ≠ X13) v18a).setRow (g := X13) (fun h => h rfl) #[.slice X13A X13n X13c]
  replace hNX13 : Blk (v18a.setRow X13 #[.slice X13A X13n X13c]) X13 30 #[.slice X13A X13n X13c] := setRow_heap _ _ _ _ _ _ HNX13.out
  obtain ⟨v18, hv18⟩ : ∃ v, v = (v18a.setRow X13 #[.slice X13A X13n X13c]) := ⟨_, rfl⟩
  have hbB : Below v17.heap.size v17 v18 := by rw [hv18]; exact (Below.setRow hbA (show v17.heap.size ≤ X13 by omega) _)
  rw [← hv18] at hNX13
  have HBX13 := Lib.hid hNX13
  have Hv18a := Lib.hid hv18a
  have Hv18 := Lib.hid hv18
  have HEX13 := Lib.hid hX13
  clear hNX13 hkX13 hv18a hv18 hbA
  have hlX13 : w.heap.size ≤ X13 := by have := HB.out.size; omega
  have hoX1X13 : X1 < X13 := by have := HBX1.out.lt; omega
  have hoX2X13 : X2 < X13 := by have := HBX2.out.lt; omega
  have hoX3X13 : X3 < X13 := by have := HBX3.out.lt; omega
  have hoX9X13 : X9 < X13 := by have := HBX9.out.lt; omega
  have hoX11X13 : X11 < X13 := by have := HBX11.out.lt; omega
  clear hX13
  go_upto_region 9 with (first | (refine wpList_alloc0 rfl 30 rfl #[.slice none 0 0] _ i30 hi30 hz30 rfl ?_; simp only [Act.put, List.setIfInBounds_toArray, List.set_cons_succ, List.set_cons_zero]; try simp only [World.size_alloc]) | (rw [← Hv18a.out, ← HEX13.out]; refine wpList_store_row rfl 30 (.tmp 13) (.tmp 55) rfl X13 #[.slice X13A X13n X13c] rfl rfl 30 _ HNX13.out (size30 _ rfl) rfl (net_one _ _ _) ?_; rw [← Hv18.out]))
  replace HB := Lib.hid (HB.out.trans (hbB.mono HB.out.size))
  replace HBX1 := Lib.hid (HBX1.out.below hbB HBX1.out.lt)
  replace Hn := Lib.hid (Hn.out.below hbB)
  replace HBX2 := Lib.hid (HBX2.out.below hbB HBX2.out.lt)
  replace HPX3 := Lib.hid (HPX3.out.below hbB)
  replace HBX3 := Lib.hid (HBX3.out.below hbB HBX3.out.lt)
  replace HPX9 := Lib.hid (HPX9.out.below hbB)
  replace HBX9 := Lib.hid (HBX9.out.below hbB HBX9.out.lt)
  replace HPX11 := Lib.hid (HPX11.out.below hbB)
  replace HBX11 := Lib.hid (HBX11.out.below hbB HBX11.out.lt)
  replace HPX13 := Lib.hid (HPX13.out.below hbB)
  clear hbB
  clear HNX13 HEX13 Hv18a Hv18
  clear HBX13 HPX13
  have Hk := Lib.hid (Blk.range HBX2.out)
  go_upto_region 10 with (refine wpList_load_mid rfl 30 (.tmp 2) rfl X2 0 rfl [.slice A2 1 c2] d30 Hk.out hd30 hrow30 (by skip; kernel_rfl) ?_)
  clear Hk
  refine (Forge0_any A2 1 c2 [askP 3 2 5] 1 0 1 [askP 3 2 5] 310 v18 Hn.out hc2 (by omega) ask_valid (by decide +kernel)).mono ?_
  rintro e v19 ⟨⟨X15A, X15n, X15c, rfl, hX15c, hp_⟩, hb_⟩
  replace HB := Lib.hid (HB.out.trans (hb_.mono HB.out.size))
  replace HBX1 := Lib.hid (HBX1.out.below hb_ HBX1.out.lt)
  replace Hn := Lib.hid (Hn.out.below hb_)
  replace HBX2 := Lib.hid (HBX2.out.below hb_ HBX2.out.lt)
  replace HPX3 := Lib.hid (HPX3.out.below hb_)
  replace HBX3 := Lib.hid (HBX3.out.below hb_ HBX3.out.lt)
  replace HPX9 := Lib.hid (HPX9.out.below hb_)
  replace HBX9 := Lib.hid (HBX9.out.below hb_ HBX9.out.lt)
  replace HPX11 := Lib.hid (HPX11.out.below hb_)
  replace HBX11 := Lib.hid (HBX11.out.below hb_ HBX11.out.lt)
  clear hb_
  have HPX15 := Lib.hid hp_
  clear hp_
  obtain ⟨v20a, hv20a⟩ : ∃ v, v = (v19.alloc (.cells #[.slice none 0 0] 30)) := ⟨_, rfl⟩
  obtain ⟨X15, hX15⟩ : ∃ v, v = v19.heap.size := ⟨_, rfl⟩
  have hNX15 : Blk (v19.alloc (.cells #[.slice none 0 0] 30)) X15 30 #[.slice none 0 0] := by
    have := Blk.new v19 30 #[.slice none 0 0]
    skip
    rw [hX15]; exact this
  rw [← hv20a] at hNX15
  have hbA : Below v19.heap.size v19 v20a := by
    rw [hv20a]; exact (Below.refl _ _).alloc (by simp) _
  have HNX15 := Lib.hid hNX15
  have hkX15 := (KeptIn.refl (fun b => b ≠ X15) v20a).setRow (g := X15) (fun h => h rfl) #[.slice X15A X15n X15c]
  replace hNX15 : Blk (v20a.setRow X15 #[.slice X15A X15n X15c]) X15 30 #[.slice X15A X15n X15c] := setRow_heap _ _ _ _ _ _ HNX15.out
  obtain ⟨v20, hv20⟩ : ∃ v, v = (v20a.setRow X15 #[.slice X15A X15n X15c]) := ⟨_, rfl⟩
  have hbB : Below v19.heap.size v19 v20 := by rw [hv20]; exact (Below.setRow hbA (show v19.heap.size ≤ X15 by omega) _)
  rw [← hv20] at hNX15
  have HBX15 := Lib.hid hNX15
  have Hv20a := Lib.hid hv20a
  have Hv20 := Lib.hid hv20
  have HEX15 := Lib.hid hX15
  clear hNX15 hkX15 hv20a hv20 hbA
  have hlX15 : w.heap.size ≤ X15 := by have := HB.out.size; omega
  have hoX1X15 : X1 < X15 := by have := HBX1.out.lt; omega
  have hoX2X15 : X2 < X15 := by have := HBX2.out.lt; omega
  have hoX3X15 : X3 < X15 := by have := HBX3.out.lt; omega
  have hoX9X15 : X9 < X15 := by have := HBX9.out.lt; omega
  have hoX11X15 : X11 < X15 := by have := HBX11.out.lt; omega
  clear hX15
  go_upto_region 10 with (first | (refine wpList_alloc0 rfl 30 rfl #[.slice none 0 0] _ i30 hi30 hz30 rfl ?_; simp only [Act.put, List.setIfInBounds_toArray, List.set_cons_succ, List.set_cons_zero]; try simp only [World.size_alloc]) | (rw [← Hv20a.out, ← HEX15.out]; refine wpList_store_row rfl 30 (.tmp 15) (.tmp 60) rfl X15 #[.slice X15A X15n X15c] rfl rfl 30 _ HNX15.out (size30 _ rfl) rfl (net_one _ _ _) ?_; rw [← Hv20.out]))
  replace HB := Lib.hid (HB.out.trans (hbB.mono HB.out.size))
  replace HBX1 := Lib.hid (HBX1.out.below hbB HBX1.out.lt)
  replace Hn := Lib.hid (Hn.out.below hbB)
  replace HBX2 := Lib.hid (HBX2.out.below hbB HBX2.out.lt)
  replace HPX3 := Lib.hid (HPX3.out.below hbB)
  replace HBX3 := Lib.hid (HBX3.out.below hbB HBX3.out.lt)
  replace HPX9 := Lib.hid (HPX9.out.below hbB)
  replace HBX9 := Lib.hid (HBX9.out.below hbB HBX9.out.lt)
  replace HPX11 := Lib.hid (HPX11.out.below hbB)
  replace HBX11 := Lib.hid (HBX11.out.below hbB HBX11.out.lt)
  replace HPX15 := Lib.hid (HPX15.out.below hbB)
  clear hbB
  clear HNX15 HEX15 Hv20a Hv20
  clear HBX15 HPX15
  go_upto_region 11 with (refine wpList_buildN rfl 30 _ rfl [] rfl _ built30z ?_)
  refine (Take0_any none 0 0 [] 0 pk0 [] 310 v20 (pks_nil _) (Nat.le_refl _) (by omega) (by decide +kernel)).mono ?_
  rintro e v21 ⟨⟨X17v, X18A, X18n, X18c, rfl, hX18c, hp_, hq_⟩, hb_⟩
  replace HB := Lib.hid (HB.out.trans (hb_.mono HB.out.size))
  replace HBX1 := Lib.hid (HBX1.out.below hb_ HBX1.out.lt)
  replace Hn := Lib.hid (Hn.out.below hb_)
  replace HBX2 := Lib.hid (HBX2.out.below hb_ HBX2.out.lt)
  replace HPX3 := Lib.hid (HPX3.out.below hb_)
  replace HBX3 := Lib.hid (HBX3.out.below hb_ HBX3.out.lt)
  replace HPX9 := Lib.hid (HPX9.out.below hb_)
  replace HBX9 := Lib.hid (HBX9.out.below hb_ HBX9.out.lt)
  replace HPX11 := Lib.hid (HPX11.out.below hb_)
  replace HBX11 := Lib.hid (HBX11.out.below hb_ HBX11.out.lt)
  clear hb_
  clear hp_ hq_
  obtain ⟨v22a, hv22a⟩ : ∃ v, v = ((v21.alloc (.cells (pvC pv0).toArray 39)).alloc (.cells #[.slice none 0 0] 30)) := ⟨_, rfl⟩
  obtain ⟨X17, hX17⟩ : ∃ v, v = v21.heap.size := ⟨_, rfl⟩
  have hNX17 : Blk (v21.alloc (.cells (pvC pv0).toArray 39)) X17 39 (pvC pv0).toArray := by
    have := Blk.new v21 39 (pvC pv0).toArray
    skip
    rw [hX17]; exact this
  replace hNX17 := hNX17.alloc (.cells #[.slice none 0 0] 30)
  rw [← hv22a] at hNX17
  obtain ⟨X18, hX18⟩ : ∃ v, v = v21.heap.size + 1 := ⟨_, rfl⟩
  have hNX18 : Blk ((v21.alloc (.cells (pvC pv0).toArray 39)).alloc (.cells #[.slice none 0 0] 30)) X18 30 #[.slice none 0 0] := by
    have := Blk.new (v21.alloc (.cells (pvC pv0).toArray 39)) 30 #[.slice none 0 0]
    rw [World.size_alloc] at this
    rw [hX18]; exact this
  rw [← hv22a] at hNX18
  have hbA : Below v21.heap.size v21 v22a := by
    rw [hv22a]; exact ((Below.refl _ _).alloc (by simp) _).alloc (by simp) _
  have HNX17 := Lib.hid hNX17
  have hkX17 := (KeptIn.refl (fun b => b ≠ X17) v22a).setRow (g := X17) (fun h => h rfl) (pvC X17v).toArray
  replace hNX18 := hNX18.keptIn hkX17 (show X18 ≠ X17 by omega)
  replace hNX17 : Blk (v22a.setRow X17 (pvC X17v).toArray) X17 39 (pvC X17v).toArray := setRow_heap _ _ _ _ _ _ HNX17.out
  have HNX18 := Lib.hid hNX18
  have hkX18 := (KeptIn.refl (fun b => b ≠ X18) (v22a.setRow X17 (pvC X17v).toArray)).setRow (g := X18) (fun h => h rfl) #[.slice X18A X18n X18c]
  replace hNX17 := hNX17.keptIn hkX18 (show X17 ≠ X18 by omega)
  replace hNX18 : Blk ((v22a.setRow X17 (pvC X17v).toArray).setRow X18 #[.slice X18A X18n X18c]) X18 30 #[.slice X18A X18n X18c] := setRow_heap _ _ _ _ _ _ HNX18.out
  obtain ⟨v22, hv22⟩ : ∃ v, v = ((v22a.setRow X17 (pvC X17v).toArray).setRow X18 #[.slice X18A X18n X18c]) := ⟨_, rfl⟩
  have hbB : Below v21.heap.size v21 v22 := by rw [hv22]; exact (Below.setRow (Below.setRow hbA (show v21.heap.size ≤ X17 by omega) _) (show v21.heap.size ≤ X18 by omega) _)
  rw [← hv22] at hNX17
  have HBX17 := Lib.hid hNX17
  rw [← hv22] at hNX18
  have HBX18 := Lib.hid hNX18
  have Hv22a := Lib.hid hv22a
  have Hv22 := Lib.hid hv22
  have HEX17 := Lib.hid hX17
  have HEX18 := Lib.hid hX18
  clear hNX17 hkX17 hNX18 hkX18 hv22a hv22 hbA
  have hlX17 : w.heap.size ≤ X17 := by have := HB.out.size; omega
  have hoX1X17 : X1 < X17 := by have := HBX1.out.lt; omega
  have hoX2X17 : X2 < X17 := by have := HBX2.out.lt; omega
  have hoX3X17 : X3 < X17 := by have := HBX3.out.lt; omega
  have hoX9X17 : X9 < X17 := by have := HBX9.out.lt; omega
  have hoX11X17 : X11 < X17 := by have := HBX11.out.lt; omega
  have hlX18 : w.heap.size ≤ X18 := by have := HB.out.size; omega
  have hoX1X18 : X1 < X18 := by have := HBX1.out.lt; omega
  have hoX2X18 : X2 < X18 := by have := HBX2.out.lt; omega
  have hoX3X18 : X3 < X18 := by have := HBX3.out.lt; omega
  have hoX9X18 : X9 < X18 := by have := HBX9.out.lt; omega
  have hoX11X18 : X11 < X18 := by have := HBX11.out.lt; omega
  clear hX17 hX18
  go_upto_region 11 with (first | (refine wpList_alloc0 rfl 39 rfl (pvC pv0).toArray _ i39 hi39 hz39 rfl ?_; simp only [Act.put, List.setIfInBounds_toArray, List.set_cons_succ, List.set_cons_zero]; try simp only [World.size_alloc]) | (refine wpList_alloc0 rfl 30 rfl #[.slice none 0 0] _ i30 hi30 hz30 rfl ?_; simp only [Act.put, List.setIfInBounds_toArray, List.set_cons_succ, List.set_cons_zero]; try simp only [World.size_alloc]) | (rw [← Hv22a.out, ← HEX18.out, ← HEX17.out]; refine wpList_store_row rfl 39 (.tmp 17) (.tmp 65) rfl X17 (pvC X17v).toArray rfl rfl 39 _ HNX17.out (size39 _ rfl) rfl (pv_row_one _) ?_) | (refine wpList_store_row rfl 30 (.tmp 18) (.tmp 66) rfl X18 #[.slice X18A X18n X18c] rfl rfl 30 _ HNX18.out (size30 _ rfl) rfl (net_one _ _ _) ?_; rw [← Hv22.out]))
  replace HB := Lib.hid (HB.out.trans (hbB.mono HB.out.size))
  replace HBX1 := Lib.hid (HBX1.out.below hbB HBX1.out.lt)
  replace Hn := Lib.hid (Hn.out.below hbB)
  replace HBX2 := Lib.hid (HBX2.out.below hbB HBX2.out.lt)
  replace HPX3 := Lib.hid (HPX3.out.below hbB)
  replace HBX3 := Lib.hid (HBX3.out.below hbB HBX3.out.lt)
  replace HPX9 := Lib.hid (HPX9.out.below hbB)
  replace HBX9 := Lib.hid (HBX9.out.below hbB HBX9.out.lt)
  replace HPX11 := Lib.hid (HPX11.out.below hbB)
  replace HBX11 := Lib.hid (HBX11.out.below hbB HBX11.out.lt)
  clear hbB
  clear HNX17 HEX17 HNX18 HEX18 Hv22a Hv22
  clear HBX17 HBX18
  have Hk := Lib.hid (Blk.range HBX2.out)
  go_upto_region 12 with (refine wpList_load_mid rfl 30 (.tmp 2) rfl X2 0 rfl [.slice A2 1 c2] d30 Hk.out hd30 hrow30 (by skip; kernel_rfl) ?_)
  clear Hk
  refine (Double0_any A2 1 c2 [askP 3 2 5] (-1) [askP 3 2 5] 310 v22 Hn.out hc2 (by omega) (by decide +kernel)).mono ?_
  rintro e v23 ⟨⟨X20A, X20n, X20c, rfl, hX20c, hp_⟩, hb_⟩
  replace HB := Lib.hid (HB.out.trans (hb_.mono HB.out.size))
  replace HBX1 := Lib.hid (HBX1.out.below hb_ HBX1.out.lt)
  replace Hn := Lib.hid (Hn.out.below hb_)
  replace HBX2 := Lib.hid (HBX2.out.below hb_ HBX2.out.lt)
  replace HPX3 := Lib.hid (HPX3.out.below hb_)
  replace HBX3 := Lib.hid (HBX3.out.below hb_ HBX3.out.lt)
  replace HPX9 := Lib.hid (HPX9.out.below hb_)
  replace HBX9 := Lib.hid (HBX9.out.below hb_ HBX9.out.lt)
  replace HPX11 := Lib.hid (HPX11.out.below hb_)
  replace HBX11 := Lib.hid (HBX11.out.below hb_ HBX11.out.lt)
  clear hb_
  clear hp_
  obtain ⟨v24a, hv24a⟩ : ∃ v, v = (v23.alloc (.cells #[.slice none 0 0] 30)) := ⟨_, rfl⟩
  obtain ⟨X20, hX20⟩ : ∃ v, v = v23.heap.size := ⟨_, rfl⟩
  have hNX20 : Blk (v23.alloc (.cells #[.slice none 0 0] 30)) X20 30 #[.slice none 0 0] := by
    have := Blk.new v23 30 #[.slice none 0 0]
    skip
    rw [hX20]; exact this
  rw [← hv24a] at hNX20
  have hbA : Below v23.heap.size v23 v24a := by
    rw [hv24a]; exact (Below.refl _ _).alloc (by simp) _
  have HNX20 := Lib.hid hNX20
  have hkX20 := (KeptIn.refl (fun b => b ≠ X20) v24a).setRow (g := X20) (fun h => h rfl) #[.slice X20A X20n X20c]
  replace hNX20 : Blk (v24a.setRow X20 #[.slice X20A X20n X20c]) X20 30 #[.slice X20A X20n X20c] := setRow_heap _ _ _ _ _ _ HNX20.out
  obtain ⟨v24, hv24⟩ : ∃ v, v = (v24a.setRow X20 #[.slice X20A X20n X20c]) := ⟨_, rfl⟩
  have hbB : Below v23.heap.size v23 v24 := by rw [hv24]; exact (Below.setRow hbA (show v23.heap.size ≤ X20 by omega) _)
  rw [← hv24] at hNX20
  have HBX20 := Lib.hid hNX20
  have Hv24a := Lib.hid hv24a
  have Hv24 := Lib.hid hv24
  have HEX20 := Lib.hid hX20
  clear hNX20 hkX20 hv24a hv24 hbA
  have hlX20 : w.heap.size ≤ X20 := by have := HB.out.size; omega
  have hoX1X20 : X1 < X20 := by have := HBX1.out.lt; omega
  have hoX2X20 : X2 < X20 := by have := HBX2.out.lt; omega
  have hoX3X20 : X3 < X20 := by have := HBX3.out.lt; omega
  have hoX9X20 : X9 < X20 := by have := HBX9.out.lt; omega
  have hoX11X20 : X11 < X20 := by have := HBX11.out.lt; omega
  clear hX20
  go_upto_region 12 with (first | (refine wpList_alloc0 rfl 30 rfl #[.slice none 0 0] _ i30 hi30 hz30 rfl ?_; simp only [Act.put, List.setIfInBounds_toArray, List.set_cons_succ, List.set_cons_zero]; try simp only [World.size_alloc]) | (rw [← Hv24a.out, ← HEX20.out]; refine wpList_store_row rfl 30 (.tmp 20) (.tmp 71) rfl X20 #[.slice X20A X20n X20c] rfl rfl 30 _ HNX20.out (size30 _ rfl) rfl (net_one _ _ _) ?_; rw [← Hv24.out]))
  replace HB := Lib.hid (HB.out.trans (hbB.mono HB.out.size))
  replace HBX1 := Lib.hid (HBX1.out.below hbB HBX1.out.lt)
  replace Hn := Lib.hid (Hn.out.below hbB)
  replace HBX2 := Lib.hid (HBX2.out.below hbB HBX2.out.lt)
  replace HPX3 := Lib.hid (HPX3.out.below hbB)
  replace HBX3 := Lib.hid (HBX3.out.below hbB HBX3.out.lt)
  replace HPX9 := Lib.hid (HPX9.out.below hbB)
  replace HBX9 := Lib.hid (HBX9.out.below hbB HBX9.out.lt)
  replace HPX11 := Lib.hid (HPX11.out.below hbB)
  replace HBX11 := Lib.hid (HBX11.out.below hbB HBX11.out.lt)
  clear hbB
  clear HNX20 HEX20 Hv24a Hv24
  clear HBX20
  go_upto_region 13 with fail
  obtain rfl : X9n = 0 := by have := HPX9.out.len; simpa using this.symm
  refine wp_region_flowF [107, 108, 109, 110, 111, 112, 113, 114, 115, 116, 117, 118, 119, 120, 121, 122, 123, 124, 125, 126, 127, 128, 129, 130, 131, 132, 133, 0] [(Spec.is (.bool true), false), (Spec.is (.bool true), false), (Spec.is (.agg (pvC X3v).toArray), false), (Spec.is (.agg (pvC (askV 3 2 5)).toArray), false), (Spec.is (.bool true), false), (Spec.is (.bool true), false), (Spec.is (.bool true), false), (Spec.is (.agg (pvC (askV 3 2 5)).toArray), false), (spBytes [3, 2, 5], false), (Spec.is (.string (str [3, 2, 5])), false), (spBytes [3, 2, 5], false), (Spec.is (.string (str [3, 2, 5])), false), (Spec.is (.bool true), false), (Spec.is (.bool true), false), (Spec.is (.bool true), false), (Spec.is (.pointer (some ⟨X9, 0, none⟩)), false), (Spec.is (.slice X9A 0 X9c), false), (Spec.is (.int .i64 0), false), (Spec.is (.bool true), false), (Spec.is (.bool true), false), (Spec.is (.bool true), false), (Spec.is (.agg [.slice X11A X11n X11c].toArray), false), (Spec.is (.agg (pvC (askV 3 2 4)).toArray), false), (spPks 1 [askP 3 2 4], false), (spNet 1 1 [askP 3 2 4], false), (Spec.is (.bool true), false), (Spec.is (.bool true), false), (Spec.is (.bool true), false)] 134 (by kernel_rfl) rfl (by decide) rfl (by decide) (by kernel_rfl) ?_ ?_
  · refine ⟨?_, ?_, ?_, ?_, ?_, ?_, ?_, ?_, ?_, ?_, ?_, ?_, ?_, ?_, ?_, ?_, ?_, ?_, ?_, ?_, ?_, ?_, ?_, ?_, ?_, ?_, ?_, ?_, trivial⟩
    · intro a W hE hb hs
      have h22 : a.eval (.tmp 22) = .bool true := hb 22 (by decide)
      refine flow0 rfl ?_
      exact val_move _ rfl _ h22 ⟨rfl, trivial⟩
    · intro a W hE hb hs
      have h107 : a.eval (.tmp 107) = .bool true := hs 0 (by decide)
      refine flow0 rfl ?_
      exact val_move _ rfl _ h107 ⟨rfl, trivial⟩
    · intro a W hE hb hs
      have h3 : a.eval (.tmp 3) = .pointer (some ⟨X3, 0, none⟩) := hb 3 (by decide)
      have h108 : a.eval (.tmp 108) = .bool true := hs 1 (by decide)
      refine flowY rfl rfl h108 ?_
      exact val_load_row 39 _ rfl X3 0 h3 (pvC X3v) d39 (Blk.range (HBX3.out.below (ext_below hE) HBX3.out.lt)) hd39 hrow39 (by rw [pvC_len]; kernel_rfl) ⟨rfl, trivial⟩
    · intro a W hE hb hs
      have h1 : a.eval (.tmp 1) = .pointer (some ⟨X1, 0, none⟩) := hb 1 (by decide)
      have h108 : a.eval (.tmp 108) = .bool true := hs 1 (by decide)
      refine flowY rfl rfl h108 ?_
      exact val_load_row 39 _ rfl X1 0 h1 (pvC (askV 3 2 5)) d39 (Blk.range (HBX1.out.below (ext_below hE) HBX1.out.lt)) hd39 hrow39 (by rw [pvC_len]; kernel_rfl) ⟨rfl, trivial⟩
    · intro a W hE hb hs
      have h109 : a.eval (.tmp 109) = .agg (pvC X3v).toArray := hs 2 (by decide)
      have h110 : a.eval (.tmp 110) = .agg (pvC (askV 3 2 5)).toArray := hs 3 (by decide)
      have h108 : a.eval (.tmp 108) = .bool true := hs 1 (by decide)
      refine flowY rfl rfl h108 ?_
      exact val_call 18 _ _ rfl (by kernel_rfl) [.agg (pvC X3v).toArray, .agg (pvC (askV 3 2 5)).toArray] (by show [a.eval (.tmp 109), a.eval (.tmp 110)] = _; rw [h109, h110]) ((Same_any X3v (askV 3 2 5) (askP 3 2 5) (askP 3 2 5) W (HPX3.out.below (ext_below hE)) (pv_ask W 3 2 5) ok_ask ok_ask).mono (by rintro e W' ⟨rfl, hb⟩; exact ⟨_, rfl, hb, rfl, trivial⟩))
    · intro a W hE hb hs
      have h108 : a.eval (.tmp 108) = .bool true := hs 1 (by decide)
      have h111 : a.eval (.tmp 111) = .bool true := hs 4 (by decide)
      refine flow0 rfl ?_
      exact val_pick _ _ _ rfl true h108 _ (by rw [if_pos rfl]; exact h111) ⟨rfl, trivial⟩
    · intro a W hE hb hs
      have h112 : a.eval (.tmp 112) = .bool true := hs 5 (by decide)
      refine flow0 rfl ?_
      exact val_move _ rfl _ h112 ⟨rfl, trivial⟩
    · intro a W hE hb hs
      have h1 : a.eval (.tmp 1) = .pointer (some ⟨X1, 0, none⟩) := hb 1 (by decide)
      have h113 : a.eval (.tmp 113) = .bool true := hs 6 (by decide)
      refine flowY rfl rfl h113 ?_
      exact val_load_row 39 _ rfl X1 0 h1 (pvC (askV 3 2 5)) d39 (Blk.range (HBX1.out.below (ext_below hE) HBX1.out.lt)) hd39 hrow39 (by rw [pvC_len]; kernel_rfl) ⟨rfl, trivial⟩
    · intro a W hE hb hs
      have h114 : a.eval (.tmp 114) = .agg (pvC (askV 3 2 5)).toArray := hs 7 (by decide)
      have h113 : a.eval (.tmp 113) = .bool true := hs 6 (by decide)
      refine flowY rfl rfl h113 ?_
      exact val_call 26 _ _ rfl (by kernel_rfl) [.agg (pvC (askV 3 2 5)).toArray] (by show [a.eval (.tmp 114)] = _; rw [h114]) ((NBytes0_any (askV 3 2 5) (askP 3 2 5) [3, 2, 5] W (pv_ask W 3 2 5) (by decide +kernel) (by decide +kernel)).mono (by rintro e W' ⟨⟨A, n, c, rfl, hr⟩, hb⟩; exact ⟨_, rfl, hb, ⟨A, n, c, rfl, hr⟩, trivial⟩))
    · intro a W hE hb hs
      have h115 : ∃ (A : Option Addr) (n c : Nat), (a.eval (.tmp 115)) = .slice A n c ∧ Rd W 1 A n (([3, 2, 5] : List UInt8).map byteV) := hs 8 (by decide)
      have h113 : a.eval (.tmp 113) = .bool true := hs 6 (by decide)
      refine flowY rfl rfl h113 ?_
      obtain ⟨A, n, c, h115, hr⟩ := h115
      exact val_run _ (run_conv_op _ _ (.tmp 115) rfl W _ _ h115 (convert_bytes A n c [3, 2, 5] W hr)) ⟨rfl, trivial⟩
    · intro a W hE hb hs
      have h113 : a.eval (.tmp 113) = .bool true := hs 6 (by decide)
      refine flowY rfl rfl h113 ?_
      exact val_buildSlice 26 5 3 _ rfl [(0, .int .u8 3), (1, .int .u8 2), (2, .int .u8 5)] rfl #[.int .u8 3, .int .u8 2, .int .u8 5] i0 _ 1 und22 hi0 hz0 hz1 (by decide) (by decide) (by kernel_rfl) ⟨⟨_, _, _, rfl, rd_newB _ _ _ rfl (by decide)⟩, trivial⟩
    · intro a W hE hb hs
      have h117 : ∃ (A : Option Addr) (n c : Nat), (a.eval (.tmp 117)) = .slice A n c ∧ Rd W 1 A n (([3, 2, 5] : List UInt8).map byteV) := hs 10 (by decide)
      have h113 : a.eval (.tmp 113) = .bool true := hs 6 (by decide)
      refine flowY rfl rfl h113 ?_
      obtain ⟨A, n, c, h117, hr⟩ := h117
      exact val_run _ (run_conv_op _ _ (.tmp 117) rfl W _ _ h117 (convert_bytes A n c [3, 2, 5] W hr)) ⟨rfl, trivial⟩
    · intro a W hE hb hs
      have h116 : a.eval (.tmp 116) = .string (str [3, 2, 5]) := hs 9 (by decide)
      have h118 : a.eval (.tmp 118) = .string (str [3, 2, 5]) := hs 11 (by decide)
      have h113 : a.eval (.tmp 113) = .bool true := hs 6 (by decide)
      refine flowY rfl rfl h113 ?_
      intro K hK
      unfold Oper.wp execOp
      simp only [h116, h118]
      simp [go_sem]
      exact hK _ _ ⟨Below.refl _ _, rfl, trivial⟩
    · intro a W hE hb hs
      have h113 : a.eval (.tmp 113) = .bool true := hs 6 (by decide)
      have h119 : a.eval (.tmp 119) = .bool true := hs 12 (by decide)
      refine flow0 rfl ?_
      exact val_pick _ _ _ rfl true h113 _ (by rw [if_pos rfl]; exact h119) ⟨rfl, trivial⟩
    · intro a W hE hb hs
      have h120 : a.eval (.tmp 120) = .bool true := hs 13 (by decide)
      refine flow0 rfl ?_
      exact val_move _ rfl _ h120 ⟨rfl, trivial⟩
    · intro a W hE hb hs
      have h9 : a.eval (.tmp 9) = .pointer (some ⟨X9, 0, none⟩) := hb 9 (by decide)
      have h121 : a.eval (.tmp 121) = .bool true := hs 14 (by decide)
      refine flowY rfl rfl h121 ?_
      intro K hK
      unfold Oper.wp execOp
      simp only [h9]
      simp [go_sem]
      exact hK _ _ ⟨Below.refl _ _, rfl, trivial⟩
    · intro a W hE hb hs
      have h122 : a.eval (.tmp 122) = .pointer (some ⟨X9, 0, none⟩) := hs 15 (by decide)
      have h121 : a.eval (.tmp 121) = .bool true := hs 14 (by decide)
      refine flowY rfl rfl h121 ?_
      have c0 : W.cell? ⟨X9, 0, none⟩ = some (.slice X9A 0 X9c) := ((HBX9.out.below (ext_below hE) HBX9.out.lt).cell 0).trans rfl
      have z0 := (HBX9.out.below (ext_below hE) HBX9.out.lt).frozen 0
      intro K hK
      unfold Oper.wp execOp
      simp only [h122]
      simp [go_sem, c0]
      exact hK _ _ ⟨Below.refl _ _, rfl, trivial⟩
    · intro a W hE hb hs
      have h123 : a.eval (.tmp 123) = .slice X9A 0 X9c := hs 16 (by decide)
      have h121 : a.eval (.tmp 121) = .bool true := hs 14 (by decide)
      refine flowY rfl rfl h121 ?_
      exact val_len _ 28 39 rfl Try.underlying28 _ _ _ h123 ⟨rfl, trivial⟩
    · intro a W hE hb hs
      have h124 : a.eval (.tmp 124) = .int .i64 0 := hs 17 (by decide)
      have h121 : a.eval (.tmp 121) = .bool true := hs 14 (by decide)
      refine flowY rfl rfl h121 ?_
      intro K hK
      unfold Oper.wp execOp
      simp only [h124, BigFrame.eval_const]
      simp [go_sem]
      exact hK _ _ ⟨Below.refl _ _, rfl, trivial⟩
    · intro a W hE hb hs
      have h121 : a.eval (.tmp 121) = .bool true := hs 14 (by decide)
      have h125 : a.eval (.tmp 125) = .bool true := hs 18 (by decide)
      refine flow0 rfl ?_
      exact val_pick _ _ _ rfl true h121 _ (by rw [if_pos rfl]; exact h125) ⟨rfl, trivial⟩
    · intro a W hE hb hs
      have h126 : a.eval (.tmp 126) = .bool true := hs 19 (by decide)
      refine flow0 rfl ?_
      exact val_move _ rfl _ h126 ⟨rfl, trivial⟩
    · intro a W hE hb hs
      have h11 : a.eval (.tmp 11) = .pointer (some ⟨X11, 0, none⟩) := hb 11 (by decide)
      have h127 : a.eval (.tmp 127) = .bool true := hs 20 (by decide)
      refine flowY rfl rfl h127 ?_
      exact val_load_row 30 _ rfl X11 0 h11 [.slice X11A X11n X11c] d30 (Blk.range (HBX11.out.below (ext_below hE) HBX11.out.lt)) hd30 hrow30 (by skip; kernel_rfl) ⟨rfl, trivial⟩
    · intro a W hE hb hs
      have h127 : a.eval (.tmp 127) = .bool true := hs 20 (by decide)
      refine flowY rfl rfl h127 ?_
      exact val_build 39 _ rfl [(0, .int .i64 3), (1, .int .i64 2), (2, .int .i64 4)] rfl _ (built39p 3 2 4) ⟨rfl, trivial⟩
    · intro a W hE hb hs
      have h129 : a.eval (.tmp 129) = .agg (pvC (askV 3 2 4)).toArray := hs 22 (by decide)
      have h127 : a.eval (.tmp 127) = .bool true := hs 20 (by decide)
      refine flowY rfl rfl h127 ?_
      exact val_build1g (.tmp 129) rfl (askV 3 2 4) h129 W ⟨⟨_, rfl, pks_one (Blk.new _ _ _) (pv_ask _ 3 2 4)⟩, trivial⟩
    · intro a W hE hb hs
      have h130 : ∃ (A : Option Addr), (a.eval (.tmp 130)) = .slice A 1 1 ∧ PksAt W A 1 [askP 3 2 4] := hs 23 (by decide)
      have h127 : a.eval (.tmp 127) = .bool true := hs 20 (by decide)
      refine flowY rfl rfl h127 ?_
      obtain ⟨A, h130, hk⟩ := h130
      exact val_build 30 _ rfl [(0, .slice A 1 1)] (by show [(0, a.eval (.tmp 130))] = _; rw [h130]) _ (built30 A 1 1) ⟨⟨A, rfl, hk⟩, trivial⟩
    · intro a W hE hb hs
      have h128 : a.eval (.tmp 128) = .agg [.slice X11A X11n X11c].toArray := hs 21 (by decide)
      have h131 : ∃ (A : Option Addr), (a.eval (.tmp 131)) = .agg #[.slice A 1 1] ∧ PksAt W A 1 [askP 3 2 4] := hs 24 (by decide)
      have h127 : a.eval (.tmp 127) = .bool true := hs 20 (by decide)
      refine flowY rfl rfl h127 ?_
      obtain ⟨A, h131, hk⟩ := h131
      exact val_call 19 _ _ rfl (by kernel_rfl) [.agg #[.slice X11A X11n X11c], .agg #[.slice A 1 1]] (by show [a.eval (.tmp 128), a.eval (.tmp 131)] = _; rw [h128, h131]) ((SameNet_any X11A X11n X11c [askP 3 2 4] A 1 1 [askP 3 2 4] W (HPX11.out.below (ext_below hE)) hk (fun x hx => ok_ask4 hx) (fun x hx => ok_ask4 hx) (by have := HPX11.out.len; simp at this; omega) (by omega)).mono (by rintro e W' ⟨rfl, hb⟩; rw [decide_eq_true rfl]; exact ⟨_, rfl, hb, rfl, trivial⟩))
    · intro a W hE hb hs
      have h127 : a.eval (.tmp 127) = .bool true := hs 20 (by decide)
      have h132 : a.eval (.tmp 132) = .bool true := hs 25 (by decide)
      refine flow0 rfl ?_
      exact val_pick _ _ _ rfl true h127 _ (by rw [if_pos rfl]; exact h132) ⟨rfl, trivial⟩
    · intro a W hE hb hs
      have h133 : a.eval (.tmp 133) = .bool true := hs 26 (by decide)
      refine flow0 rfl ?_
      exact val_assign _ rfl _ h133 ⟨rfl, trivial⟩
  intro f W hb hT hp hd
  have e0 : f 0 = .bool true := hT 27 (by decide)
  simp only [putV, List.foldl_cons, List.foldl_nil, Act.put, List.setIfInBounds_toArray, List.set_cons_succ, List.set_cons_zero, Exit.then]
  rw [e0]
  have HE := Lib.hid (HB.out.trans (hb.mono HB.out.size))
  clear hb hT hp hd e0
  go_wp2_with fail
  go_ret
  exact ⟨rfl, HE.out⟩
end Go.Proofs.Yteofgkdpknaapaa
