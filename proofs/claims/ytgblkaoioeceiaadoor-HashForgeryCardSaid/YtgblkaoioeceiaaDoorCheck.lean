/- Package hash: Check. -/
import Derived.Test.YtgblkaoioeceiaaDoorProof
namespace Go.Proofs.YtgblkaoioeceiaaDoor
open Go.RowKit

instance : DecidableEq Sum32 := fun a b => if h : a.1 = b.1 then isTrue (Subtype.ext h) else isFalse (fun e => h (by rw [e]))
def chk : Nat → Nat → Nat → Sum32 → List Sum32 → Option Sum32
  | 0, _, _, x, p => if p = [] then some x else none
  | f + 1, n, i, x, p =>
    if n ≤ 1 then (if p = [] then some x else none)
    else if n ≤ i ^^^ 1 then chk f ((n + 1) / 2) (i / 2) x p
    else match p with
      | [] => none
      | h :: t => chk f ((n + 1) / 2) (i / 2) (if i % 2 = 1 then pairS h x else pairS x h) t
theorem chk_succ (f n i : Nat) (x : Sum32) (p : List Sum32) : chk (f + 1) n i x p = if n ≤ 1 then (if p = [] then some x else none)
    else if n ≤ i ^^^ 1 then chk f ((n + 1) / 2) (i / 2) x p
    else match p with
      | [] => none
      | h :: t => chk f ((n + 1) / 2) (i / 2) (if i % 2 = 1 then pairS h x else pairS x h) t := by
  cases p <;> rfl
theorem chk_one : ∀ (f n i : Nat) (x : Sum32) (p : List Sum32), n ≤ 1 → chk f n i x p = if p = [] then some x else none
  | 0, _, _, _, _, _ => rfl
  | f + 1, n, i, x, p, h => by rw [chk_succ, if_pos h]
theorem chk_fuel : ∀ (f g n i : Nat) (x : Sum32) (p : List Sum32), n ≤ f → n ≤ g → chk f n i x p = chk g n i x p
  | 0, g, n, i, x, p, h, _ => by rw [chk_one g n i x p (by omega)]; rfl
  | f + 1, 0, n, i, x, p, _, h => by rw [chk_one (f + 1) n i x p (by omega)]; rfl
  | f + 1, g + 1, n, i, x, p, h, h' => by
    by_cases h1 : n ≤ 1
    · rw [chk_one _ _ _ _ _ h1, chk_one _ _ _ _ _ h1]
    · rw [chk_succ, chk_succ, if_neg h1, if_neg h1]
      split
      · exact chk_fuel f g _ _ _ _ (by omega) (by omega)
      · cases p with
        | nil => rfl
        | cons a t => exact chk_fuel f g _ _ _ _ (by omega) (by omega)
def chkL (n i : Nat) (x : Sum32) (p : List Sum32) : Option Sum32 := chk n n i x p
theorem chkL_one (n i : Nat) (x : Sum32) (p : List Sum32) (h : n ≤ 1) : chkL n i x p = if p = [] then some x else none := chk_one _ _ _ _ _ h
theorem chkL_skip (n i : Nat) (x : Sum32) (p : List Sum32) (h : 1 < n) (hx : n ≤ i ^^^ 1) : chkL n i x p = chkL ((n + 1) / 2) (i / 2) x p := by
  unfold chkL
  rw [show chk n n i x p = chk ((n - 1) + 1) n i x p from by rw [show n - 1 + 1 = n from by omega], chk_succ, if_neg (by omega), if_pos hx]
  exact chk_fuel _ _ _ _ _ _ (by omega) (by omega)
theorem chkL_nil (n i : Nat) (x : Sum32) (h : 1 < n) (hx : ¬ n ≤ i ^^^ 1) : chkL n i x [] = none := by
  unfold chkL
  rw [show chk n n i x [] = chk ((n - 1) + 1) n i x [] from by rw [show n - 1 + 1 = n from by omega], chk_succ, if_neg (by omega), if_neg hx]
theorem chkL_cons (n i : Nat) (x a : Sum32) (t : List Sum32) (h : 1 < n) (hx : ¬ n ≤ i ^^^ 1) : chkL n i x (a :: t) = chkL ((n + 1) / 2) (i / 2) (if i % 2 = 1 then pairS a x else pairS x a) t := by
  unfold chkL
  rw [show chk n n i x (a :: t) = chk ((n - 1) + 1) n i x (a :: t) from by rw [show n - 1 + 1 = n from by omega], chk_succ, if_neg (by omega), if_neg hx]
  exact chk_fuel _ _ _ _ _ _ (by omega) (by omega)

theorem sumC_ints (x : Sum32) : sumC x = (x.1.map fun b => (b.toNat : Int)).map (Value.int .u8) := by
  unfold sumC byteV
  rw [List.map_map]
  rfl
theorem ints_inj (x y : Sum32) : (x.1.map fun b => (b.toNat : Int)) = (y.1.map fun b => (b.toNat : Int)) ↔ x = y := by
  constructor
  · intro h
    refine Subtype.ext ?_
    have hinj : ∀ (a b : List UInt8), a.map (fun b => (b.toNat : Int)) = b.map (fun b => (b.toNat : Int)) → a = b := by
      intro a
      induction a with
      | nil => intro b h; cases b with
        | nil => rfl
        | cons c d => simp at h
      | cons c d ih => intro b h; cases b with
        | nil => simp at h
        | cons c' d' =>
          simp only [List.map_cons, List.cons.injEq] at h
          obtain ⟨h1, h2⟩ := h
          have e1 : c = c' := UInt8.toNat_inj.1 (by omega)
          rw [ih d' h2, e1]
    exact hinj _ _ h
  · rintro rfl; rfl
theorem run_eql_sum (x y : Sum32) (W : World) : (binOp .eql 32 (.agg (sumC x).toArray) (.agg (sumC y).toArray)).run Tryd.prog W = .ok (.bool (decide (x = y))) W := by
  rw [sumC_ints, sumC_ints, run_eql_arr W 32 5 32 .u8 und32 (by kernel_rfl) (by kernel_rfl) _ _ (by rw [List.length_map]; exact x.2) (by rw [List.length_map]; exact y.2)]
  rw [show decide ((x.1.map fun b => (b.toNat : Int)) = (y.1.map fun b => (b.toNat : Int))) = decide (x = y) from decide_eq_decide.2 (ints_inj x y)]
theorem run_neq_sum (x y : Sum32) (W : World) : (binOp .neq 32 (.agg (sumC x).toArray) (.agg (sumC y).toArray)).run Tryd.prog W = .ok (.bool (!decide (x = y))) W := by
  rw [sumC_ints, sumC_ints, run_neq_arr W 32 5 32 .u8 und32 (by kernel_rfl) (by kernel_rfl) _ _ (by rw [List.length_map]; exact x.2) (by rw [List.length_map]; exact y.2)]
  rw [show decide ((x.1.map fun b => (b.toNat : Int)) = (y.1.map fun b => (b.toNat : Int))) = decide (x = y) from decide_eq_decide.2 (ints_inj x y)]
/-- A load of an array known as a list, under a guard that holds. -/
theorem wpList_load_mid_g {P : Program} {ops : Array Oper} {rest : List Oper} {op : Oper} {a : Act} {w : World} {Q : Exit → Act → World → Prop} (hw : Region.wanted op (yielded ops a.tmps) = true) (ty : TypeId) (x : Operand) (ho : op.op = .load ty x)
    (b o : Nat) (hx : a.eval x = .pointer (some ⟨b, o, none⟩)) (cs : List Value) (d : TypeDesc) (hc : w.rangeAt b o cs)
    (hu : P.underlying ty = some d) (hd : d.isRow = true) (hi : (P.info? ty).map (·.size) = some cs.length)
    (h : wpList P ops Q rest (a.put op.dst (.agg cs.toArray)) w) : wpList P ops Q (op :: rest) a w := by
  rw [wpList, if_pos hw]
  exact .inl (wp_load_mid ty x ho b o hx cs d hc hu hd hi h)
theorem Blk.range {W : World} {B : Nat} {t : TypeId} {cs : List Value} (h : Blk W B t cs.toArray) : W.rangeAt B 0 cs := fun j v hv => by
  rw [h.cell, Nat.zero_add]; simpa using hv
theorem Rd.rest32 {w : World} {m b off : Nat} {a : Sum32} {t : List Sum32} (h : Rd w 32 (some ⟨b, off, none⟩) m ((a :: t).flatMap sumC)) : Rd w 32 (some ⟨b, off + 32, none⟩) (m - 1) (t.flatMap sumC) := by
  have hl := h.lenf sumC_len (by omega)
  simp at hl
  refine ⟨by rw [flat_length sumC_len]; congr 1; omega, by have := h.le; omega, fun hp => ?_⟩
  obtain ⟨b', off', e, hc⟩ := h.2.2 (by omega)
  cases e
  refine ⟨b, off + 32, rfl, fun j u hu => ?_⟩
  rw [Nat.add_assoc]
  refine hc (32 + j) u ?_
  rw [List.flatMap_cons, List.getElem?_append_right (by rw [sumC_len]; omega), sumC_len, Nat.add_sub_cancel_left]
  exact hu

set_option maxRecDepth 100000 in
set_option maxHeartbeats 1000000 in
theorem Check_bad (rt : Sum32) (n i : Int) (A B : Option Addr) (len cap m c : Nat) (hi : i < 0 ∨ n ≤ i) (w : World) :
    Calls Tryd.prog 23 #[sumV rt.1, .int .i64 n, .int .i64 i, .slice A len cap, .slice B m c] w fun e w' => e = .returned (.bool false) ∧ Below w.heap.size w w' := by
  have hB : ∀ o, Below w.heap.size w (w.alloc o) := fun o => (Below.refl _ _).alloc (Nat.le_refl _) _
  have HB := Lib.hid hB
  clear hB
  go_enter Tryd.func23, Tryd.ntmps23
  unfold sumV
  by_cases h0 : i < 0
  · go_wp2
    go_ret
    exact ⟨rfl, HB.out _⟩
  · have h1 : n ≤ i := by omega
    clear hi
    go_wp2
    go_ret
    exact ⟨rfl, HB.out _⟩

set_option maxRecDepth 100000 in
set_option maxHeartbeats 1000000 in
theorem Check_any (rt : Sum32) (n i : Nat) (A B : Option Addr) (len cap m c : Nat) (bs : List UInt8) (p : List Sum32) (hi : i < n) (hn : n ≤ 1000000) (w : World) (hg : Globs w) (hr : Rd w 1 A len (bs.map byteV)) (hlen : len ≤ 8796093022000) (hp : Rd w 32 B m (p.flatMap sumC)) (hmc : m ≤ c) :
    Calls Tryd.prog 23 #[sumV rt.1, .int .i64 (n : Int), .int .i64 (i : Int), .slice A len cap, .slice B m c] w fun e w' => e = .returned (.bool (decide (chkL n i (leafS bs) p = some rt))) ∧ Below w.heap.size w w' := by
  obtain ⟨res, hres⟩ : ∃ r, decide (chkL n i (leafS bs) p = some rt) = r := ⟨_, rfl⟩
  rw [hres]
  have Hres := Lib.hid hres
  clear hres
  go_enter Tryd.func23, Tryd.ntmps23
  unfold sumV
  go_upto_region 1 with fail
  obtain ⟨w1, hw1⟩ : ∃ w1, w1 = w.alloc (.cells (rt.1.map byteV).toArray 32) := ⟨_, rfl⟩
  have hB1 : Below w.heap.size w w1 := by rw [hw1]; exact (Below.refl _ _).alloc (Nat.le_refl _) _
  have hR1 : Blk w1 w.heap.size 32 (sumC rt).toArray := by rw [hw1]; exact Blk.new _ _ _
  rw [← hw1]
  have hleaf := Leaf_any A len cap bs w1 (hg.below hB1) (hr.below hB1) hlen
  have hp1 := hp.below hB1
  have Hleaf := Lib.hid hleaf
  have Hg1 := Lib.hid (hg.below hB1)
  have HB1 := Lib.hid hB1
  have HR1 := Lib.hid hR1
  have Hp1 := Lib.hid hp1
  clear hw1 hleaf hg hr hp hB1 hR1 hp1
  go_wp2_with fail
  refine Hleaf.out.mono ?_
  rintro e w2 ⟨rfl, hb2⟩
  have hlf := leaf_length bs
  have HB2 := Lib.hid (HB1.out.trans (hb2.mono HB1.out.size))
  have HR2 := Lib.hid (HR1.out.below hb2 HR1.out.lt)
  have Hp2 := Lib.hid (Hp1.out.below hb2)
  have Hg2 := Lib.hid (Hg1.out.below hb2)
  have hs2 : w.heap.size < w2.heap.size := HR2.out.lt
  clear hb2
  unfold sumV
  go_wp2_with (refine wpList_store_row rfl 32 (.tmp 11) (.tmp 20) rfl w2.heap.size _ rfl rfl 32 zero32 (heap_alloc_new _ _) (size32 _ (sumV_size hlf)) ((zero32_size).trans (sumV_size hlf).symm) (all_oneCell_toArray (oneB _)) ?_; simp only [Act.put])
  have hX0 : Blk ((w2.alloc (.cells zero32 32)).setRow w2.heap.size ((leaf bs).map byteV).toArray) w2.heap.size 32 (sumC (leafS bs)).toArray := setRow_heap _ _ _ _ _ _ (heap_alloc_new _ _)
  have hB3 : Below w2.heap.size w2 ((w2.alloc (.cells zero32 32)).setRow w2.heap.size ((leaf bs).map byteV).toArray) := Below.setRow ((Below.refl _ _).alloc (Nat.le_refl _) _) (Nat.le_refl _) _
  go_loopw [1, 2, 4] (fun vn vi vp wr => ∃ (k j q c' : Nat) (B' : Option Addr) (ys : List Sum32) (x : Sum32), vn = .int .i64 (k : Int) ∧ vi = .int .i64 (j : Int) ∧ vp = .slice B' q c' ∧ q ≤ c' ∧ j < k ∧ k ≤ 1000000 ∧ Rd w2 32 B' q (ys.flatMap sumC) ∧ decide (chkL k j x ys = some rt) = res ∧ Blk wr w2.heap.size 32 (sumC x).toArray ∧ Below w2.heap.size w2 wr) (fun vn _ _ _ => (intOf vn).toNat)
  case atStart => exact ⟨n, i, m, c, B, p, leafS bs, rfl, rfl, rfl, hmc, hi, hn, Hp2.out, Hres.out, hX0, hB3⟩
  case round =>
    obtain ⟨k, j, q, c', B', ys, x, rfl, rfl, rfl, hqc, hjk, hk, hrd, hck, hX, hB⟩ := hrel
    clear hX0 hB3
    have hyl := hrd.lenf sumC_len (by omega)
    have hxor := i64_xor1 j (by omega)
    have hx32 : x.1.length = 32 := x.2
    have hxx : ∀ w', Ext wr w' → w'.rangeAt w2.heap.size 0 (sumC x) := fun w' hw' => Blk.range (hX.below (ext_below hw') hX.lt)
    have Hx := Lib.hid hxx
    have HX := Lib.hid hX
    have HB := Lib.hid hB
    clear hxx
    by_cases h1 : 1 < k
    · by_cases hsk : k ≤ j ^^^ 1
      · have hcs := chkL_skip k j x ys h1 hsk
        rw [hcs] at hck
        have Hck := Lib.hid hck
        have Hrd := Lib.hid hrd
        clear hcs hck hrd hX hB
        generalize j ^^^ 1 = jx at *
        go_wp2
        exact ⟨⟨(k + 1) / 2, j / 2, q, c', B', ys, x, by go_num, by go_num, rfl, hqc, by omega, by omega, Hrd.out, Hck.out, HX.out, HB.out⟩, by simp [intOf]; omega⟩
      · cases ys with
        | nil =>
          obtain rfl : q = 0 := by simpa using hyl.symm
          rw [chkL_nil k j x h1 hsk] at hck
          have hres : res = false := by rw [← hck]; rfl
          have Hr := Lib.hid hres
          clear hck hres hrd hX hB
          generalize j ^^^ 1 = jx at *
          go_wp2
          go_ret
          exact ⟨by rw [Hr.out]; rfl, HB2.out.trans (HB.out.mono (by omega))⟩
        | cons a t =>
          have hq0 : 0 < q := by rw [← hyl]; simp
          obtain ⟨b, off, rfl, _⟩ := hrd.2.2 hq0
          have hcc := chkL_cons k j x a t h1 hsk
          have ha32 : a.1.length = 32 := a.2
          have har := hrd.range32 (k := 0) hq0
          rw [Nat.zero_mul, Nat.add_zero] at har
          have haa : ∀ w', Ext wr w' → w'.rangeAt b off (sumC a) := fun w' hw' j v hv => by
            have h0 := har j v hv
            have h1 := (HB.out.cell (World.block_lt_of_cell? w2 _ h0)).trans h0
            exact ((ext_below hw').cell (World.block_lt_of_cell? wr _ h1)).trans h1
          have Ha := Lib.hid haa
          have Hrest := Lib.hid hrd.rest32
          clear haa har
          generalize j ^^^ 1 = jx at *
          by_cases hj2 : j % 2 = 1
          · rw [if_pos hj2] at hcc
            have hcc2 : decide (chkL ((k + 1) / 2) (j / 2) (pairS a x) t = some rt) = res := by rw [← hcc]; exact hck
            have Hcc := Lib.hid hcc2
            have hb1 : ((j : Int) % 2 == 1) = true := by rw [beq_iff_eq]; omega
            clear hcc hcc2 hck hrd hX hB
            go_wp2
            refine wp_region_reads_tail 5 [0, 1, 2, 3] 1 (by kernel_rfl) (List.take_append_drop _ _) rfl (by kernel_rfl) (by kernel_rfl) (by kernel_rfl) (by decide) (by kernel_rfl) (by kernel_rfl) (fun _ _ d _ _ h => by cases d <;> exact h) (by kernel_rfl) (by kernel_rfl) rfl ?_
            simp only [List.take_succ_cons, List.take_zero, List.drop_succ_cons, List.drop_zero, pickOps, List.getElem?_cons_zero, List.getElem?_cons_succ]
            repeat (first | go_big_quiet_step (fail) | (refine wpQuiet_load_mid rfl 32 _ rfl b off rfl (sumC a) _ Ha.out und32 rfl (by rw [sumC_len]; kernel_rfl) ?_; simp only [Act.put, List.setIfInBounds_toArray, List.set_cons_succ, List.set_cons_zero]) | (refine wpQuiet_load_mid rfl 32 _ rfl w2.heap.size 0 rfl (sumC x) _ Hx.out und32 rfl (by rw [sumC_len]; kernel_rfl) ?_; simp only [Act.put, List.setIfInBounds_toArray, List.set_cons_succ, List.set_cons_zero]))
            refine wpQuiet_nil ?_
            refine wpAnyH_one (i := 4) (by kernel_rfl) rfl ?_
            intro K hK
            go_simp
            have hpair := Pair_any a.1 x.1 ha32 hx32 wr.drew (Hg2.out.below (HB.out.drew))
            have Hpair := Lib.hid hpair
            clear hpair
            unfold sumC
            refine Hpair.out.mono ?_
            rintro e W1 ⟨rfl, hb1⟩
            have hB1 : Below wr.heap.size wr W1 := (Below.refl _ wr).drew.trans hb1
            refine hK _ _ (ext_of hB1) ?_
            clear hK K
            refine wpAnyH_done (by kernel_rfl) ?_ _
            have hpl := pair_length a.1 x.1
            have hX1 : Blk W1 w2.heap.size 32 (sumC x).toArray := HX.out.below hB1 HX.out.lt
            simp only [Exit.then]
            unfold sumV
            refine wpList_store_row rfl 32 (.tmp 11) (.tmp 44) rfl _ _ rfl rfl 32 _ hX1 (size32 _ (sumV_size hpl)) ((by simp [sumC, hx32, hpl])) (all_oneCell_toArray (oneB _)) ?_
            have hX2 : Blk (W1.setRow w2.heap.size ((pair a.1 x.1).map byteV).toArray) w2.heap.size 32 (sumC (pairS a x)).toArray := setRow_heap _ _ _ _ _ _ hX1
            have hB2 : Below w2.heap.size w2 (W1.setRow w2.heap.size ((pair a.1 x.1).map byteV).toArray) := Below.setRow (HB.out.trans (hB1.mono HB.out.size)) (Nat.le_refl _) _
            refine wpList_nil ?_
            have HX2 := Lib.hid hX2
            have HB2 := Lib.hid hB2
            clear hX2 hB2 hX1 hB1 hb1
            generalize (W1.setRow w2.heap.size ((pair a.1 x.1).map byteV).toArray) = W2 at *
            simp only [Act.put]
            by_cases hc1 : c' = 1
            · subst hc1
              go_wp2
              exact ⟨⟨(k + 1) / 2, j / 2, q - 1, 0, some ⟨b, off, none⟩, t, pairS a x, by go_num, by go_num, by simp; omega, by omega, by omega, by omega, by obtain rfl : t = [] := List.eq_nil_of_length_eq_zero (by simp at hyl; omega); rw [show q - 1 = 0 from by omega]; exact Rd.nil _ _ _, Hcc.out, HX2.out, HB2.out⟩, by simp [intOf]; omega⟩
            · go_wp2
              exact ⟨⟨(k + 1) / 2, j / 2, q - 1, c' - 1, some ⟨b, off + 32, none⟩, t, pairS a x, by go_num, by go_num, by simp, by omega, by omega, by omega, Hrest.out, Hcc.out, HX2.out, HB2.out⟩, by simp [intOf]; omega⟩
          · rw [if_neg hj2] at hcc
            have hcc2 : decide (chkL ((k + 1) / 2) (j / 2) (pairS x a) t = some rt) = res := by rw [← hcc]; exact hck
            have Hcc := Lib.hid hcc2
            have hb1 : ((j : Int) % 2 == 1) = false := by rw [beq_eq_false_iff_ne]; omega
            clear hcc hcc2 hck hrd hX hB
            go_wp2
            refine wp_region_reads_tail 5 [0, 1, 2, 3] 1 (by kernel_rfl) (List.take_append_drop _ _) rfl (by kernel_rfl) (by kernel_rfl) (by kernel_rfl) (by decide) (by kernel_rfl) (by kernel_rfl) (fun _ _ d _ _ h => by cases d <;> exact h) (by kernel_rfl) (by kernel_rfl) rfl ?_
            simp only [List.take_succ_cons, List.take_zero, List.drop_succ_cons, List.drop_zero, pickOps, List.getElem?_cons_zero, List.getElem?_cons_succ]
            repeat (first | go_big_quiet_step (fail) | (refine wpQuiet_load_mid rfl 32 _ rfl b off rfl (sumC a) _ Ha.out und32 rfl (by rw [sumC_len]; kernel_rfl) ?_; simp only [Act.put, List.setIfInBounds_toArray, List.set_cons_succ, List.set_cons_zero]) | (refine wpQuiet_load_mid rfl 32 _ rfl w2.heap.size 0 rfl (sumC x) _ Hx.out und32 rfl (by rw [sumC_len]; kernel_rfl) ?_; simp only [Act.put, List.setIfInBounds_toArray, List.set_cons_succ, List.set_cons_zero]))
            refine wpQuiet_nil ?_
            refine wpAnyH_one (i := 4) (by kernel_rfl) rfl ?_
            intro K hK
            go_simp
            have hpair := Pair_any x.1 a.1 hx32 ha32 wr.drew (Hg2.out.below (HB.out.drew))
            have Hpair := Lib.hid hpair
            clear hpair
            unfold sumC
            refine Hpair.out.mono ?_
            rintro e W1 ⟨rfl, hb1⟩
            have hB1 : Below wr.heap.size wr W1 := (Below.refl _ wr).drew.trans hb1
            refine hK _ _ (ext_of hB1) ?_
            clear hK K
            refine wpAnyH_done (by kernel_rfl) ?_ _
            have hpl := pair_length x.1 a.1
            have hX1 : Blk W1 w2.heap.size 32 (sumC x).toArray := HX.out.below hB1 HX.out.lt
            simp only [Exit.then]
            unfold sumV
            refine wpList_store_row rfl 32 (.tmp 11) (.tmp 49) rfl _ _ rfl rfl 32 _ hX1 (size32 _ (sumV_size hpl)) ((by simp [sumC, hx32, hpl])) (all_oneCell_toArray (oneB _)) ?_
            have hX2 : Blk (W1.setRow w2.heap.size ((pair x.1 a.1).map byteV).toArray) w2.heap.size 32 (sumC (pairS x a)).toArray := setRow_heap _ _ _ _ _ _ hX1
            have hB2 : Below w2.heap.size w2 (W1.setRow w2.heap.size ((pair x.1 a.1).map byteV).toArray) := Below.setRow (HB.out.trans (hB1.mono HB.out.size)) (Nat.le_refl _) _
            refine wpList_nil ?_
            have HX2 := Lib.hid hX2
            have HB2 := Lib.hid hB2
            clear hX2 hB2 hX1 hB1 hb1
            generalize (W1.setRow w2.heap.size ((pair x.1 a.1).map byteV).toArray) = W2 at *
            simp only [Act.put]
            by_cases hc1 : c' = 1
            · subst hc1
              go_wp2
              exact ⟨⟨(k + 1) / 2, j / 2, q - 1, 0, some ⟨b, off, none⟩, t, pairS x a, by go_num, by go_num, by simp; omega, by omega, by omega, by omega, by obtain rfl : t = [] := List.eq_nil_of_length_eq_zero (by simp at hyl; omega); rw [show q - 1 = 0 from by omega]; exact Rd.nil _ _ _, Hcc.out, HX2.out, HB2.out⟩, by simp [intOf]; omega⟩
            · go_wp2
              exact ⟨⟨(k + 1) / 2, j / 2, q - 1, c' - 1, some ⟨b, off + 32, none⟩, t, pairS x a, by go_num, by go_num, by simp, by omega, by omega, by omega, Hrest.out, Hcc.out, HX2.out, HB2.out⟩, by simp [intOf]; omega⟩
    · obtain rfl : k = 1 := by omega
      obtain rfl : j = 0 := by omega
      rw [chkL_one 1 0 x ys (by omega)] at hck
      have hE := run_eql_sum x rt
      have hxr : wr.rangeAt w2.heap.size 0 (sumC x) := Blk.range hX
      have hrr : wr.rangeAt w.heap.size 0 (sumC rt) := Blk.range (HR2.out.below HB.out hs2)
      have Hxr := Lib.hid hxr
      have Hrr := Lib.hid hrr
      have HE := Lib.hid hE
      clear hxr hrr hE hrd hX hB
      cases ys with
      | nil =>
        obtain rfl : q = 0 := by simpa using hyl.symm
        rw [if_pos rfl] at hck
        have hres : decide (x = rt) = res := by rw [← hck]; simp
        have Hr := Lib.hid hres
        clear hck hres
        have hE := HE.out
        go_wp2_with (first | (refine wpList_load_mid_g (by first | rfl | simp [Region.wanted, yielded]) 32 (.tmp 11) rfl w2.heap.size 0 rfl (sumC x) _ Hxr.out und32 rfl (by rw [sumC_len]; kernel_rfl) ?_) | (refine wpList_load_mid_g (by first | rfl | simp [Region.wanted, yielded]) 32 (.tmp 5) rfl w.heap.size 0 rfl (sumC rt) _ Hrr.out und32 rfl (by rw [sumC_len]; kernel_rfl) ?_))
        go_ret
        exact ⟨by rw [← Hr.out]; rfl, HB2.out.trans (HB.out.mono (by omega))⟩
      | cons a t =>
        have hq0 : 0 < q := by rw [← hyl]; simp
        rw [if_neg (by simp)] at hck
        have hres : res = false := by rw [← hck]; rfl
        have Hr := Lib.hid hres
        clear hck hres
        go_wp2
        go_ret
        exact ⟨by rw [Hr.out]; rfl, HB2.out.trans (HB.out.mono (by omega))⟩
end Go.Proofs.YtgblkaoioeceiaaDoor
