/- Package block: Match pairs the blocks of two texts. -/
import Derived.Test.YtdhibimhohkmoaaBlockFns
import Derived.Test.YtdhibimhohkmoaaBlockMap
namespace Go.Proofs.Ytdhibimhohkmoaa
open Go.RowKit Go.Shelf

attribute [local go_sem] Oper.semAt_some

theorem info26 : (Try.prog.info? 26).map (fun i => (i.zero, i.size, i.bytes)) = some (some (.agg #[.int .i64 0, .int .i64 0]), 2, 16) := by kernel_rfl

/-- The pairs of a match of two texts. -/
def matchB (xa xb : List UInt8) (lo hi : Nat) : List (Nat × Nat) := mres ((blocks xa lo hi).map (piece xa)) ((blocks xb lo hi).map (piece xb))

set_option maxRecDepth 100000 in
set_option maxHeartbeats 4000000 in
theorem Match_in (n : Nat) (hn : 3 ≤ n) (A A' : Option Addr) (len len' cap cap' lo hi : Nat) (xa xb : List UInt8) (hlo : 4 ≤ lo) (hlh : lo ≤ hi) (hhi : hi ≤ 4096) (w : World) (hr : Rd w 1 A len (xa.map byteV)) (hr' : Rd w 1 A' len' (xb.map byteV))
    (hc : len ≤ cap) (hc' : len' ≤ cap') (hlen : len ≤ 8796093022208) (hlen' : len' ≤ 8796093022208) :
    CallsIn Fence.wide n Try.prog 16 #[.slice A len cap, .slice A' len' cap', .int .i64 lo, .int .i64 hi] w fun e W' => ∃ A'' n'' c'', e = .returned (.tuple #[.slice A'' n'' c'', .int .i64 0]) ∧
      Rd W' 2 A'' n'' (((matchB xa xb lo hi).map natPair).flatMap twoV) ∧ Below w.heap.size w W' := by
  have h1 : 1 ≤ n := by omega
  have hmm := @run_makeMap Try.prog
  obtain ⟨i0, hi0, hz0, hz1, hz2⟩ := info_parts info26
  refine callsIn_of_wp_marks Try.func16 rfl trivial ?_ rfl
  simp only [Try.ntmps16, List.size_toArray, List.length_cons, List.length_nil, Nat.reduceAdd, Nat.reduceSub, Array.replicate_succ, Array.replicate_zero, List.push_toArray, List.append_toArray, List.nil_append, List.cons_append]
  gi_wp2_with (first | (refine ⟨trivial, ?_⟩; gi_at_call 26; refine (callsIn_wide.2 (limits_true lo hi hlo hlh hhi _)).mono ?_; rintro e w' ⟨rfl, rfl⟩) | (refine ⟨trivial, ?_⟩; gi_at_call 27; refine (all_in (n - 1) _ _ _ _ _ _).mono ?_; rintro e w' ⟨rfl, rfl⟩))
  have bA := (((((((Boxed.new w 22 (.slice A len cap)).alloc (.cells #[.slice A' len' cap'] 22)).alloc (.map #[] 0)).alloc (.cells #[.map (some (w.heap.size + 1 + 1))] 65)).alloc (.cells #[.int .i64 0] 3)).alloc (.cells #[.slice A len cap] 22)).alloc (.cells #[.int .i64 lo] 3)).alloc (.cells #[.int .i64 hi] 3)
  have bB := ((((((Boxed.new (w.alloc (.cells #[.slice A len cap] 22)) 22 (.slice A' len' cap')).alloc (.map #[] 0)).alloc (.cells #[.map (some (w.heap.size + 1 + 1))] 65)).alloc (.cells #[.int .i64 0] 3)).alloc (.cells #[.slice A len cap] 22)).alloc (.cells #[.int .i64 lo] 3)).alloc (.cells #[.int .i64 hi] 3)
  have bM := (((((mapIs_new ((w.alloc (.cells #[.slice A len cap] 22)).alloc (.cells #[.slice A' len' cap'] 22))).alloc (.cells #[.map (some (w.heap.size + 1 + 1))] 65)).alloc (.cells #[.int .i64 0] 3)).alloc (.cells #[.slice A len cap] 22)).alloc (.cells #[.int .i64 lo] 3)).alloc (.cells #[.int .i64 hi] 3)
  have bV := ((((Boxed.new (((w.alloc (.cells #[.slice A len cap] 22)).alloc (.cells #[.slice A' len' cap'] 22)).alloc (.map #[] 0)) 65 (.map (some (w.heap.size + 1 + 1)))).alloc (.cells #[.int .i64 0] 3)).alloc (.cells #[.slice A len cap] 22)).alloc (.cells #[.int .i64 lo] 3)).alloc (.cells #[.int .i64 hi] 3)
  have bN := (((Boxed.new ((((w.alloc (.cells #[.slice A len cap] 22)).alloc (.cells #[.slice A' len' cap'] 22)).alloc (.map #[] 0)).alloc (.cells #[.map (some (w.heap.size + 1 + 1))] 65)) 3 (.int .i64 0)).alloc (.cells #[.slice A len cap] 22)).alloc (.cells #[.int .i64 lo] 3)).alloc (.cells #[.int .i64 hi] 3)
  have b1 := ((Boxed.new (((((w.alloc (.cells #[.slice A len cap] 22)).alloc (.cells #[.slice A' len' cap'] 22)).alloc (.map #[] 0)).alloc (.cells #[.map (some (w.heap.size + 1 + 1))] 65)).alloc (.cells #[.int .i64 0] 3)) 22 (.slice A len cap)).alloc (.cells #[.int .i64 lo] 3)).alloc (.cells #[.int .i64 hi] 3)
  have b2 := (Boxed.new ((((((w.alloc (.cells #[.slice A len cap] 22)).alloc (.cells #[.slice A' len' cap'] 22)).alloc (.map #[] 0)).alloc (.cells #[.map (some (w.heap.size + 1 + 1))] 65)).alloc (.cells #[.int .i64 0] 3)).alloc (.cells #[.slice A len cap] 22)) 3 (.int .i64 lo)).alloc (.cells #[.int .i64 hi] 3)
  have b3 := Boxed.new (((((((w.alloc (.cells #[.slice A len cap] 22)).alloc (.cells #[.slice A' len' cap'] 22)).alloc (.map #[] 0)).alloc (.cells #[.map (some (w.heap.size + 1 + 1))] 65)).alloc (.cells #[.int .i64 0] 3)).alloc (.cells #[.slice A len cap] 22)).alloc (.cells #[.int .i64 lo] 3)) 3 (.int .i64 hi)
  simp only [World.size_alloc] at bB bM bV bN b1 b2 b3
  have hB0 : Below w.heap.size w ((((((((w.alloc (.cells #[.slice A len cap] 22)).alloc (.cells #[.slice A' len' cap'] 22)).alloc (.map #[] 0)).alloc (.cells #[.map (some (w.heap.size + 1 + 1))] 65)).alloc (.cells #[.int .i64 0] 3)).alloc (.cells #[.slice A len cap] 22)).alloc (.cells #[.int .i64 lo] 3)).alloc (.cells #[.int .i64 hi] 3)) :=
    ((((((((Below.refl _ w).alloc (Nat.le_refl _) _).alloc (by simp) _).alloc (by simp; omega) _).alloc (by simp; omega) _).alloc (by simp; omega) _).alloc (by simp; omega) _).alloc (by simp; omega) _).alloc (by simp; omega) _
  have hsz : ((((((((w.alloc (.cells #[.slice A len cap] 22)).alloc (.cells #[.slice A' len' cap'] 22)).alloc (.map #[] 0)).alloc (.cells #[.map (some (w.heap.size + 1 + 1))] 65)).alloc (.cells #[.int .i64 0] 3)).alloc (.cells #[.slice A len cap] 22)).alloc (.cells #[.int .i64 lo] 3)).alloc (.cells #[.int .i64 hi] 3)).heap.size = w.heap.size + 8 := by simp
  obtain ⟨W0, hW0⟩ : ∃ W0, ((((((((w.alloc (.cells #[.slice A len cap] 22)).alloc (.cells #[.slice A' len' cap'] 22)).alloc (.map #[] 0)).alloc (.cells #[.map (some (w.heap.size + 1 + 1))] 65)).alloc (.cells #[.int .i64 0] 3)).alloc (.cells #[.slice A len cap] 22)).alloc (.cells #[.int .i64 lo] 3)).alloc (.cells #[.int .i64 hi] 3)) = W0 := ⟨_, rfl⟩
  rw [hW0] at bA bB bM bV bN b1 b2 b3 hB0 hsz ⊢
  clear hW0
  obtain ⟨g7, h7⟩ : ∃ g, w.heap.size + 1 + 1 + 1 + 1 + 1 + 1 + 1 = g := ⟨_, rfl⟩
  obtain ⟨g6, h6⟩ : ∃ g, w.heap.size + 1 + 1 + 1 + 1 + 1 + 1 = g := ⟨_, rfl⟩
  obtain ⟨g5, h5⟩ : ∃ g, w.heap.size + 1 + 1 + 1 + 1 + 1 = g := ⟨_, rfl⟩
  obtain ⟨g4, h4⟩ : ∃ g, w.heap.size + 1 + 1 + 1 + 1 = g := ⟨_, rfl⟩
  obtain ⟨g3, h3⟩ : ∃ g, w.heap.size + 1 + 1 + 1 = g := ⟨_, rfl⟩
  obtain ⟨g2, h2⟩ : ∃ g, w.heap.size + 1 + 1 = g := ⟨_, rfl⟩
  obtain ⟨g1, h1'⟩ : ∃ g, w.heap.size + 1 = g := ⟨_, rfl⟩
  obtain ⟨g0, h0'⟩ : ∃ g, w.heap.size = g := ⟨_, rfl⟩
  have o : w.heap.size ≤ g0 ∧ g0 < g1 ∧ g1 < g2 ∧ g2 < g3 ∧ g3 < g4 ∧ g4 < g5 ∧ g5 < g6 ∧ g6 < g7 ∧ g7 < W0.heap.size := by omega
  rw [h7] at b3
  rw [h6] at b2
  rw [h5] at b1
  rw [h4] at bN
  rw [h3, h2] at bV
  rw [h2] at bM
  rw [h1'] at bB
  rw [h0'] at bA
  rw [h7, h6, h5, h4, h3, h2, h1', h0']
  clear h7 h6 h5 h4 h3 h2 h1' h0' hsz
  obtain ⟨o0, o1, o2, o3, o4, o5, o6, o7, o8⟩ := o
  have hS : ∀ k, (k < W0.heap.size ∧ k ≠ g2 ∧ k ≠ g4) → k < W0.heap.size := fun k hk => hk.1
  have hrW := hr.below (hB0)
  have hrW' := hr'.below (hB0)
  refine wpIn_rangeFunc_ownH rfl h1 (gf := 30) (lb := #[.pointer (some ⟨g5, 0, none⟩), .pointer (some ⟨g7, 0, none⟩), .pointer (some ⟨g6, 0, none⟩)]) rfl trivial (enters_of Try.func30 (by kernel_rfl) rfl)
    (all_stops (n - 1) (by omega) g5 g7 g6 (fun k => k < W0.heap.size ∧ k ≠ g2 ∧ k ≠ g4) A len cap lo hi xa hlo hlh hhi W0 b1.cell b3.cell b2.cell
      ⟨by omega, by omega, by omega⟩ ⟨by omega, by omega, by omega⟩ ⟨by omega, by omega, by omega⟩ hrW (fun b off hl hA => by have := hr.lt (by omega) hl hA; exact ⟨by omega, by omega, by omega⟩))
    keptK_t (keptK_b hS) (Below.refl _ _) (fun _ => rfl)
    (fun pre W => (Boxed W g4 3 (.int .i64 (pre.length : Int)) ∧ MapIs W g2 (entU (pre.map (fun x => piece xa x.1)) pre.length)) ∧ KeptIn (fun k => k < W0.heap.size ∧ k ≠ g2 ∧ k ≠ g4) W0 W)
    (fun _ _ _ => False)
    (OwnFrom.and (OwnFrom.and (Own.from (boxed_own _ _ _) _) (ownFrom_map (by omega) _)) (ownFrom_keptIn hS hS))
    (fun _ _ _ _ _ hs _ _ => hs)
    ⟨⟨bN, bM⟩, KeptIn.refl _ _⟩
    (fun x a' W => ∃ Bx, W0.heap.size ≤ Bx ∧ Blk W Bx 48 #[.int .i64 (x.1.1 : Int), .int .i64 (x.1.2 : Int)] ∧ a' = { tmps := #[.slice A len cap, .slice A' len' cap', .int .i64 lo, .int .i64 hi, .pointer (some ⟨g0, 0, none⟩), .pointer (some ⟨g1, 0, none⟩), undef, undef, .slice none 0 0, .int .i64 0, .pointer (some ⟨g3, 0, none⟩), .pointer (some ⟨g4, 0, none⟩), .pointer (some ⟨Bx, 0, none⟩), undef, undef, undef, undef, undef, undef, .int .i64 lo, .int .i64 hi, .bool true, .bool false, .map (some g2), .slice A len cap, .int .i64 lo, .int .i64 hi, .func (.func 30) #[] #[.pointer (some ⟨g5, 0, none⟩), .pointer (some ⟨g7, 0, none⟩), .pointer (some ⟨g6, 0, none⟩)], .agg #[.int .i64 (x.1.1 : Int), .int .i64 (x.1.2 : Int)], undef, undef, undef, undef, undef, undef, undef, undef, undef, undef, undef, undef, undef, undef, undef, undef, undef, undef, undef, undef, undef, undef, undef, undef, undef, undef, undef, undef, undef, undef, undef, undef, undef, undef, undef, undef, undef, undef, undef, undef, undef, undef, undef, undef, undef, undef, undef, undef, undef, undef, undef, undef], defers := [] })
    (fun x a' _ X Y row hs hg hr => by obtain ⟨Bx, h1, h2, h3⟩ := hs; exact ⟨Bx, h1, blk_own Bx 48 (fun (_ : Unit) => #[Value.int .i64 (x.1.1 : Int), .int .i64 (x.1.2 : Int)]) () X Y row h2 hg (fun r e => (hr r e).2), h3⟩)
    ?assign ?body ?done ?stop
  case assign =>
    rintro l pre x W K ⟨⟨bn, bm⟩, hK0⟩ hK
    gi_wp2
    exact hK _ _ ((KeepsOthers.alloc _ _).from _) ((KeptIn.refl _ W).alloc (fun k hk => by have := hK0.size; omega) _)
      ⟨⟨bn.alloc _, bm.alloc _⟩, hK0.alloc (fun k hk => by have := hK0.size; omega) _⟩ ⟨W.heap.size, hK0.size, Blk.new W 48 _, rfl⟩
  case body =>
    rintro l pre ⟨⟨i, j⟩, hij, hj⟩ a' W hl ⟨r, hr0⟩ ⟨⟨bn, bm⟩, hK0⟩ ⟨Bx, hBx, bX, rfl⟩ hlt
    dsimp only at hij hj bX
    have cn := bn.cell
    have fn := bn.frozen
    have cv := (boxed_keptIn bV hK0 ⟨by omega, by omega, by omega⟩).cell
    have ca := (boxed_keptIn bA hK0 ⟨by omega, by omega, by omega⟩).cell
    have cx1 := bX.cell 0
    have cx2 := bX.cell 1
    have hxl := hr.len1
    obtain ⟨b, off, _, hA, _, _⟩ := hr.byte_ (k := 0) (by omega)
    subst hA
    have hb := hr.lt (by omega) (by omega) rfl
    have hrx := (hrW.keptIn hK0 (fun b' off' _ e => by cases e; exact ⟨by omega, by omega, by omega⟩)).part (i := i) (j := j) (by omega) (by omega)
    have hjl : j ≤ cap := by omega
    have hil : i < cap := by omega
    have hcv := fun q => run_bytes_str (P := Try.prog) (c := cap - i) (hrx.drewN q) 22 9 5 Try.underlying22 Try.underlying5 Try.underlying9
    rw [show ((xa.take j).drop i) = piece xa (i, j) from rfl] at hcv
    by_cases hm : piece xa (i, j) ∈ pre.map (fun x => piece xa x.1)
    · obtain ⟨q, hfs, _⟩ := find_some_of _ _ hm
      rw [List.length_map] at hfs
      have hlk := fun q => run_lookup_map (P := Try.prog) (bm.drewN q) 65 9 3 Try.underlying65 Try.underlying9 (fun w => by kernel_rfl) (piece xa (i, j))
      rw [hfs] at hlk
      simp only [Option.map_some, Option.getD_some, Option.isSome_some] at hlk
      have Hm := Lib.hid hm
      have Hbm := Lib.hid bm
      have Hbn := Lib.hid bn
      have HK0 := Lib.hid hK0
      have hbd : pre.length < 8796093022208 := by omega
      clear hrx hr hrW hr' hrW' bX hK0 bV bA hm hfs bm bn
      gi_wp2
      refine round_quiet_lit (by kernel_rfl) (by kernel_rfl) (by kernel_rfl) (by repeat (first | exact letsOut_own | refine letsOut_then ?_ | refine letsOut_block ?_)) ?_
      repeat (any_goals (first | go_big_quiet_step (fail) | quiet_step (fail)))
      refine wpQuiet_nil ?_
      intro _ hw'
      obtain ⟨nq, hw''⟩ := hw'
      subst hw''
      gi_wp2
      have hk2 : KeptIn (fun k => k < W0.heap.size ∧ k ≠ g2 ∧ k ≠ g4) W (W.drewN nq) := ⟨rfl, rfl, rfl, Nat.le_refl _, fun _ _ => rfl⟩
      have hk3 := hk2.setCell (fun k hk => by have := HK0.out.size; have := hk2.size; omega) (B := g4) (by omega) (.int .i64 ((pre.length : Int) + 1))
      refine ⟨(show KeepsOthers W (W.drewN nq) from ⟨Nat.le_refl _, fun _ _ h _ => h⟩).trans (KeepsOthers.setCell _ _ _) |>.from _, hk3, ⟨⟨?_, ?_⟩, HK0.out.trans hk3⟩⟩
      · have := (show Boxed (W.drewN nq) g4 3 (.int .i64 (pre.length : Int)) from Hbn.out).set (.int .i64 ((pre.length : Int) + 1))
        simpa using this
      · have h5 : MapIs ((W.drewN nq).setCell ⟨g4, 0, none⟩ (.int .i64 ((pre.length : Int) + 1))) g2 _ := (Hbm.out.drewN nq).kept (grownBy_setCell' (W.drewN nq) g4 _) (by simp; omega)
        rw [List.map_append, List.length_append]
        have h6 := entU_snoc (pre.map (fun x => piece xa x.1)) (piece xa (i, j))
        rw [if_pos Hm.out, List.length_map] at h6
        simp only [List.map_cons, List.map_nil, List.length_cons, List.length_nil, Nat.zero_add]
        rw [h6]
        exact h5
    · have hfn := find_none_of _ _ hm
      rw [List.length_map] at hfn
      have hlk := fun q => run_lookup_map (P := Try.prog) (bm.drewN q) 65 9 3 Try.underlying65 Try.underlying9 (fun w => by kernel_rfl) (piece xa (i, j))
      rw [hfn] at hlk
      simp only [Option.map_none, Option.getD_none, Option.isSome_none] at hlk
      have hup := fun W1 (h : MapIs W1 g2 (entU (pre.map (fun x => piece xa x.1)) pre.length)) => run_update_map (P := Try.prog) h 65 9 3 Try.underlying65 Try.underlying9 (piece xa (i, j)) pre.length hfn
      have Hup := Lib.hid hup
      have Hm := Lib.hid hm
      have Hbm := Lib.hid bm
      have Hbn := Lib.hid bn
      have HK0 := Lib.hid hK0
      clear hup hrx hr hrW hr' hrW' bX hK0 bV bA hm hfn bm bn
      have hsl := run_slice_part (P := Try.prog) 22 5 b off len cap i j Try.underlying22 (by kernel_rfl) (by omega) hjl hil
      gi_wp2
      refine round_quiet_lit (by kernel_rfl) (by kernel_rfl) (by kernel_rfl) (by repeat (first | exact letsOut_own | refine letsOut_then ?_ | refine letsOut_block ?_)) ?_
      repeat (any_goals (first | go_big_quiet_step (fail) | quiet_step (fail)))
      refine wpQuiet_nil ?_
      intro _ hw'
      obtain ⟨nq, hw''⟩ := hw'
      subst hw''
      gi_wp2
      refine round_still_tail 9 (by kernel_rfl) (by kernel_rfl) (by kernel_rfl) (by repeat (first | exact letsOut_own | refine letsOut_then ?_ | refine letsOut_block ?_)) ?_
      simp only [List.take_succ_cons, List.take_zero, List.drop_succ_cons, List.drop_zero]
      have hcv2 := hcv (nq + 1)
      rw [show W.drewN (nq + 1) = (W.drewN nq).drew from rfl] at hcv2
      repeat still_step
      refine wpStill_nil ?_
      refine wpList_update rfl 65 _ _ _ rfl (.map (some g2)) (.string (str (piece xa (i, j)))) (.int .i64 (pre.length : Int)) rfl rfl rfl (Hup.out (W.drewN nq).drew Hbm.out) ?_
      refine wpList_nil ?_
      obtain ⟨W2, hW2⟩ : ∃ W2, (W.drewN nq).drew.putObj g2 (.map (entries (entU (pre.map (fun x => piece xa x.1)) pre.length ++ [(piece xa (i, j), pre.length)])).toArray (entU (pre.map (fun x => piece xa x.1)) pre.length ++ [(piece xa (i, j), pre.length)]).length) = W2 := ⟨_, rfl⟩
      have hgr : W.grownBy W2 (some g2) := by
        have h := grownBy_putObj' (W.drewN nq).drew g2 (.map (entries (entU (pre.map (fun x => piece xa x.1)) pre.length ++ [(piece xa (i, j), pre.length)])).toArray (entU (pre.map (fun x => piece xa x.1)) pre.length ++ [(piece xa (i, j), pre.length)]).length)
        rw [hW2] at h
        exact ⟨h.os, h.tape, h.output, h.size, h.block⟩
      have bm2 : MapIs W2 g2 (entU (pre.map (fun x => piece xa x.1)) pre.length ++ [(piece xa (i, j), pre.length)]) := by
        rw [← hW2]
        exact mapIs_put (w := (W.drewN nq).drew) Hbm.out.lt _
      rw [hW2]
      clear hW2
      have bn2 : Boxed W2 g4 3 (.int .i64 (pre.length : Int)) := Hbn.out.kept hgr (by simp; omega)
      have hk2 : KeptIn (fun k => k < W0.heap.size ∧ k ≠ g2 ∧ k ≠ g4) W W2 := (KeptIn.refl _ W).grown hgr (fun k hk => by have := HK0.out.size; omega) (fun k e => by cases e; omega)
      have cn2 := bn2.cell
      have fn2 := bn2.frozen
      have hbd : pre.length < 8796093022208 := by omega
      have Hbm2 := Lib.hid bm2
      clear cn fn hcv hcv2 hlk hsl bm2
      gi_wp2
      refine ⟨(KeepsFrom.of_grownBy hgr (fun j e => by cases e; omega)).trans ((KeepsOthers.setCell _ _ _).from _), hk2.setCell (fun k hk => by have := hk2.size; have := HK0.out.size; omega) (by omega) _, ⟨⟨?_, ?_⟩, ?_⟩⟩
      · have := bn2.set (.int .i64 ((pre.length : Int) + 1))
        simpa using this
      · have h5 : MapIs (W2.setCell ⟨g4, 0, none⟩ (.int .i64 ((pre.length : Int) + 1))) g2 _ := Hbm2.out.kept (grownBy_setCell' W2 g4 _) (by simp; omega)
        rw [List.map_append, List.length_append]
        have h6 := entU_snoc (pre.map (fun x => piece xa x.1)) (piece xa (i, j))
        rw [if_neg Hm.out, List.length_map] at h6
        simp only [List.map_cons, List.map_nil, List.length_cons, List.length_nil, Nat.zero_add]
        rw [h6]
        exact h5
      · exact HK0.out.trans (hk2.setCell (fun k hk => by have := hk2.size; have := HK0.out.size; omega) (by omega) _)
  case done =>
    rintro D ya Wa hD hya ⟨⟨bn, bm⟩, hK0⟩ hKD
    have Hya := Lib.hid hya
    clear hya
    have hsa := hK0.size
    have bn1 := bn.alloc (.cells #[.slice none 0 0] 36)
    have cn := bn1.cell
    have fn := bn1.frozen
    have bb1 := ((boxed_keptIn bB hK0 ⟨by omega, by omega, by omega⟩).alloc (.cells #[.slice none 0 0] 36)).other (B' := g4) (by omega) (.int .i64 0)
    have cb := bb1.cell
    gi_wp2_with (refine ⟨trivial, ?_⟩; gi_at_call 27; refine (all_in (n - 1) _ _ _ _ _ _).mono ?_; rintro e w' ⟨rfl, rfl⟩)
    have lA : Wa.heap.size < (((Wa.alloc (.cells #[.slice none 0 0] 36)).setCell ⟨g4, 0, none⟩ (.int .i64 0))).heap.size := by simp [World.setCell]
    have gS := grownBy_setCell' (Wa.alloc (.cells #[.slice none 0 0] 36)) g4 (.int .i64 0)
    have bO := ((((Boxed.new Wa 36 (.slice none 0 0)).kept gS (by simp; omega)).alloc (.cells #[.slice A' len' cap'] 22)).alloc (.cells #[.int .i64 lo] 3)).alloc (.cells #[.int .i64 hi] 3)
    have bN2 := (((bn1.set (.int .i64 0)).alloc (.cells #[.slice A' len' cap'] 22)).alloc (.cells #[.int .i64 lo] 3)).alloc (.cells #[.int .i64 hi] 3)
    have bM2 := ((((bm.alloc (.cells #[.slice none 0 0] 36)).kept gS (by simp; omega)).alloc (.cells #[.slice A' len' cap'] 22)).alloc (.cells #[.int .i64 lo] 3)).alloc (.cells #[.int .i64 hi] 3)
    have b4 := ((Boxed.new (((Wa.alloc (.cells #[.slice none 0 0] 36)).setCell ⟨g4, 0, none⟩ (.int .i64 0))) 22 (.slice A' len' cap')).alloc (.cells #[.int .i64 lo] 3)).alloc (.cells #[.int .i64 hi] 3)
    have b5 := (Boxed.new (((Wa.alloc (.cells #[.slice none 0 0] 36)).setCell ⟨g4, 0, none⟩ (.int .i64 0)).alloc (.cells #[.slice A' len' cap'] 22)) 3 (.int .i64 lo)).alloc (.cells #[.int .i64 hi] 3)
    have b6 := Boxed.new ((((Wa.alloc (.cells #[.slice none 0 0] 36)).setCell ⟨g4, 0, none⟩ (.int .i64 0)).alloc (.cells #[.slice A' len' cap'] 22)).alloc (.cells #[.int .i64 lo] 3)) 3 (.int .i64 hi)
    have hKb0 : KeptIn (fun k => k < Wa.heap.size ∧ k ≠ g4) Wa (((((Wa.alloc (.cells #[.slice none 0 0] 36)).setCell ⟨g4, 0, none⟩ (.int .i64 0)).alloc (.cells #[.slice A' len' cap'] 22)).alloc (.cells #[.int .i64 lo] 3)).alloc (.cells #[.int .i64 hi] 3)) :=
      (((((KeptIn.refl _ Wa).alloc (fun k hk => hk.1) _).setCell (fun k hk => by simp; omega) (B := g4) (by omega) _).alloc (fun k hk => by simp [World.setCell]; omega) _).alloc (fun k hk => by simp [World.setCell]; omega) _).alloc (fun k hk => by simp [World.setCell]; omega) _
    have hszb : (((((Wa.alloc (.cells #[.slice none 0 0] 36)).setCell ⟨g4, 0, none⟩ (.int .i64 0)).alloc (.cells #[.slice A' len' cap'] 22)).alloc (.cells #[.int .i64 lo] 3)).alloc (.cells #[.int .i64 hi] 3)).heap.size = Wa.heap.size + 4 := by simp [World.setCell]
    have hsx : (((Wa.alloc (.cells #[.slice none 0 0] 36)).setCell ⟨g4, 0, none⟩ (.int .i64 0))).heap.size = Wa.heap.size + 1 := by simp [World.setCell]
    simp only [World.size_alloc, hsx] at b4 b5 b6
    obtain ⟨Wb, hWb⟩ : ∃ Wb, ((((Wa.alloc (.cells #[.slice none 0 0] 36)).setCell ⟨g4, 0, none⟩ (.int .i64 0)).alloc (.cells #[.slice A' len' cap'] 22)).alloc (.cells #[.int .i64 lo] 3)).alloc (.cells #[.int .i64 hi] 3) = Wb := ⟨_, rfl⟩
    rw [hWb] at bO bN2 bM2 b4 b5 b6 hKb0 hszb ⊢
    clear hWb
    obtain ⟨q3, e3⟩ : ∃ g, Wa.heap.size + 1 + 1 + 1 = g := ⟨_, rfl⟩
    obtain ⟨q2, e2⟩ : ∃ g, Wa.heap.size + 1 + 1 = g := ⟨_, rfl⟩
    obtain ⟨q1, e1⟩ : ∃ g, Wa.heap.size + 1 = g := ⟨_, rfl⟩
    obtain ⟨go, e0⟩ : ∃ g, Wa.heap.size = g := ⟨_, rfl⟩
    have o9 : W0.heap.size ≤ go ∧ go < q1 ∧ q1 < q2 ∧ q2 < q3 ∧ q3 < Wb.heap.size ∧ D < go := by
      have := (Array.getElem?_eq_some_iff.1 hKD).1
      omega
    rw [e3] at b6
    rw [e2] at b5
    rw [e1] at b4
    rw [e0] at bO
    rw [e0] at hKb0
    rw [e3, e2, e1, e0]
    clear e3 e2 e1 e0 hsx lA gS hszb
    obtain ⟨o9, o10, o11, o12, o13, o14⟩ := o9
    have hS2 : ∀ k, (k < Wb.heap.size ∧ k ≠ g4 ∧ k ≠ go) → k < Wb.heap.size := fun k hk => hk.1
    have bV2 := boxed_keptIn (boxed_keptIn bV hK0 ⟨by omega, by omega, by omega⟩) hKb0 ⟨by omega, by omega⟩
    have bB2 := boxed_keptIn (boxed_keptIn bB hK0 ⟨by omega, by omega, by omega⟩) hKb0 ⟨by omega, by omega⟩
    have hrWb := ((hrW'.keptIn hK0 (fun b off hl hA => by have := hr'.lt (by omega) hl hA; exact ⟨by omega, by omega, by omega⟩)).keptIn hKb0 (fun b off hl hA => by have := hr'.lt (by omega) hl hA; exact ⟨by omega, by omega⟩))
    have hBb : Below w.heap.size w Wb := (hB0.trans (hK0.below (B := w.heap.size) (fun k hk => ⟨by omega, by omega, by omega⟩))).trans (hKb0.below (fun k hk => ⟨by omega, by omega⟩))
    have hKD2 : Wb.heap[D]? = some (.deferred (some [])) := (hKb0.block D ⟨by omega, by omega⟩).trans hKD
    obtain ⟨ka, hka⟩ : ∃ ka, ya.map (fun x => piece xa x.1) = ka := ⟨_, rfl⟩
    have hkl : ya.length = ka.length := by rw [← hka]; simp
    rw [hka, hkl] at bM2
    have hka2 : ka = (blocks xa lo hi).map (piece xa) := by rw [← hka, ← Hya.out, List.map_map]; rfl
    have Hka := Lib.hid hka2
    clear hka hkl hka2 bn bm bn1 cn fn cb bb1 hK0 hKD bN bM b1 b2 b3 bV bB bA hrW hrW' hKb0
    refine wpIn_rangeFunc_ownH rfl h1 (gf := 30) (lb := #[.pointer (some ⟨q1, 0, none⟩), .pointer (some ⟨q3, 0, none⟩), .pointer (some ⟨q2, 0, none⟩)]) rfl trivial (enters_of Try.func30 (by kernel_rfl) rfl)
      (all_stops (n - 1) (by omega) q1 q3 q2 (fun k => k < Wb.heap.size ∧ k ≠ g4 ∧ k ≠ go) A' len' cap' lo hi xb hlo hlh hhi Wb b4.cell b6.cell b5.cell
        ⟨by omega, by omega, by omega⟩ ⟨by omega, by omega, by omega⟩ ⟨by omega, by omega, by omega⟩ hrWb (fun b off hl hA => by have := hr'.lt (by omega) hl hA; exact ⟨by omega, by omega, by omega⟩))
      keptK_t (keptK_b hS2) (Below.refl _ _) (fun _ => rfl)
      (fun pre W => ((∃ v, Boxed W go 36 v ∧ W.ownsRow Wb.heap.size 26 2 v (mres ka (pre.map (fun x => piece xb x.1))).length ((mres ka (pre.map (fun x => piece xb x.1))).flatMap (fun r => twoV (natPair r))) ∧ True) ∧ Boxed W g4 3 (.int .i64 (pre.length : Int))) ∧ KeptIn (fun k => k < Wb.heap.size ∧ k ≠ g4 ∧ k ≠ go) Wb W)
      (fun _ _ _ => False)
      (OwnFrom.and (OwnFrom.and (Own.from (holdsRow_own Wb.heap.size go 36 26 2 (fun (pre : List (Part xb)) => (mres ka (pre.map (fun x => piece xb x.1))).length) (fun pre => (mres ka (pre.map (fun x => piece xb x.1))).flatMap (fun r => twoV (natPair r))) (fun _ _ => True)) _) (Own.from (boxed_own _ _ _) _)) (ownFrom_keptIn hS2 hS2))
      (fun _ _ _ _ _ hs _ _ => hs)
      ⟨⟨⟨_, bO, World.ownsRow_nil _ _ _ _, trivial⟩, bN2⟩, KeptIn.refl _ _⟩
      (fun x a' W => ∃ Bx, Wb.heap.size ≤ Bx ∧ Blk W Bx 48 #[.int .i64 (x.1.1 : Int), .int .i64 (x.1.2 : Int)] ∧ a' = { tmps := #[.slice A len cap, .slice A' len' cap', .int .i64 lo, .int .i64 hi, .pointer (some ⟨g0, 0, none⟩), .pointer (some ⟨g1, 0, none⟩), undef, undef, .slice none 0 0, .int .i64 0, .pointer (some ⟨g3, 0, none⟩), .pointer (some ⟨g4, 0, none⟩), undef, undef, undef, .pointer (some ⟨go, 0, none⟩), .pointer (some ⟨Bx, 0, none⟩), undef, undef, .int .i64 lo, .int .i64 hi, .bool true, .bool false, .map (some g2), .slice A len cap, .int .i64 lo, .int .i64 hi, .func (.func 30) #[] #[.pointer (some ⟨g5, 0, none⟩), .pointer (some ⟨g7, 0, none⟩), .pointer (some ⟨g6, 0, none⟩)], undef, undef, undef, undef, undef, undef, undef, undef, undef, undef, undef, undef, undef, undef, undef, undef, undef, undef, undef, undef, undef, undef, undef, undef, undef, undef, .slice A' len' cap', .int .i64 lo, .int .i64 hi, .func (.func 30) #[] #[.pointer (some ⟨q1, 0, none⟩), .pointer (some ⟨q3, 0, none⟩), .pointer (some ⟨q2, 0, none⟩)], .agg #[.int .i64 (x.1.1 : Int), .int .i64 (x.1.2 : Int)], undef, undef, undef, undef, undef, undef, undef, undef, undef, undef, undef, undef, undef, undef, undef, undef, undef, undef, undef, undef, undef, undef], defers := [] })
      (fun x a' _ X Y row hs hg hr => by obtain ⟨Bx, h1, h2, h3⟩ := hs; exact ⟨Bx, h1, blk_own Bx 48 (fun (_ : Unit) => #[Value.int .i64 (x.1.1 : Int), .int .i64 (x.1.2 : Int)]) () X Y row h2 hg (fun r e => (hr r e).2), h3⟩)
      ?assign2 ?body2 ?done2 ?stop2
    case assign2 =>
      rintro l pre x W K ⟨⟨⟨v, bo, hrow, _⟩, bn⟩, hK0⟩ hK
      gi_wp2
      exact hK _ _ ((KeepsOthers.alloc _ _).from _) ((KeptIn.refl _ W).alloc (fun k hk => by have := hK0.size; omega) _)
        ⟨⟨⟨v, bo.alloc _, hrow.alloc _, trivial⟩, bn.alloc _⟩, hK0.alloc (fun k hk => by have := hK0.size; omega) _⟩ ⟨W.heap.size, hK0.size, Blk.new W 48 _, rfl⟩
    case body2 =>
      rintro l pre ⟨⟨i, j⟩, hij, hj⟩ a' W hl ⟨r, hr0⟩ ⟨⟨⟨v, bo, hrow, _⟩, bn⟩, hK0⟩ ⟨Bx, hBx, bX, rfl⟩ hlt
      dsimp only at hij hj bX
      have cn := bn.cell
      have fn := bn.frozen
      have co := bo.cell
      have cv := (boxed_keptIn bV2 hK0 ⟨by omega, by omega, by omega⟩).cell
      have ca := (boxed_keptIn bB2 hK0 ⟨by omega, by omega, by omega⟩).cell
      have cx1 := bX.cell 0
      have cx2 := bX.cell 1
      have hxl := hr'.len1
      obtain ⟨b, off, _, hA, _, _⟩ := hr'.byte_ (k := 0) (by omega)
      subst hA
      have hb := hr'.lt (by omega) (by omega) rfl
      have hrx := (hrWb.keptIn hK0 (fun b' off' _ e => by cases e; exact ⟨by omega, by omega, by omega⟩)).part (i := i) (j := j) (by omega) (by omega)
      have hjl : j ≤ cap' := by omega
      have hil : i < cap' := by omega
      have hcv := fun q => run_bytes_str (P := Try.prog) (c := cap' - i) (hrx.drewN q) 22 9 5 Try.underlying22 Try.underlying5 Try.underlying9
      rw [show ((xb.take j).drop i) = piece xb (i, j) from rfl] at hcv
      have hmW := (bM2.keptIn hK0 ⟨by omega, by omega, by omega⟩)
      have hlk := fun q => run_lookup_map (P := Try.prog) (hmW.drewN q) 65 9 3 Try.underlying65 Try.underlying9 (fun w => by kernel_rfl) (piece xb (i, j))
      have hbd : pre.length < 8796093022208 := by omega
      have hsW := hK0.size
      have hml := mres_length ka (pre.map (fun x => piece xb x.1))
      rw [List.length_map] at hml
      obtain ⟨M, hM⟩ : ∃ M, mres ka (pre.map (fun x => piece xb x.1)) = M := ⟨_, rfl⟩
      rw [hM] at hrow hml
      have HM := Lib.hid hM
      clear hM
      have HK0 := Lib.hid hK0
      have Hbn := Lib.hid bn
      have hkq : ∀ nq, KeptIn (fun k => k < Wb.heap.size ∧ k ≠ g4 ∧ k ≠ go) W (W.drewN nq) := fun nq => ⟨rfl, rfl, rfl, Nat.le_refl _, fun _ _ => rfl⟩
      by_cases hm : piece xb (i, j) ∈ ka
      · obtain ⟨q, hfs, hqi⟩ := find_some_of _ _ hm
        rw [hfs] at hlk
        simp only [Option.map_some, Option.getD_some, Option.isSome_some, hqi] at hlk
        have hm1 := mres_hit ka (pre.map (fun x => piece xb x.1)) (piece xb (i, j)) hm
        rw [HM.out] at hm1
        have Hm := Lib.hid hm1
        clear hm1
        clear hm hfs hqi hrx hr hr' hrWb bX hK0 bn hmW bV2 bB2 bM2 hBb hB0
        gi_wp2
        refine round_quiet_lit (by kernel_rfl) (by kernel_rfl) (by kernel_rfl) (by repeat (first | exact letsOut_own | refine letsOut_then ?_ | refine letsOut_block ?_)) ?_
        repeat (any_goals (first | go_big_quiet_step (fail) | quiet_step (fail)))
        refine wpQuiet_nil ?_
        intro _ hw'
        obtain ⟨nq, hw''⟩ := hw'
        subst hw''
        have hro : (W.drewN nq).ownsRow Wb.heap.size 26 2 v M.length (M.flatMap (fun r => twoV (natPair r))) := hrow
        have boq : Boxed (W.drewN nq) go 36 v := bo
        have bnq : Boxed (W.drewN nq) g4 3 (.int .i64 (pre.length : Int)) := Hbn.out
        have hsq : Wb.heap.size ≤ (W.drewN nq).heap.size := hsW
        gi_wp2_with (gi_at_builtin; refine wpListIn_append_own _ rfl _ _ 36 rfl Wb.heap.size 26 i0 (.agg #[.int .i64 0, .int .i64 0]) 2 16 Try.underlying36 hi0 hz0 hz1 hz2 rfl (by decide) _ _ _ rfl (hro.alloc _) ⟨W.heap.size, 0, none⟩ 1 1 [.int .i64 (ka.idxOf (piece xb (i, j)) : Int), .int .i64 (pre.length : Int)] rfl rfl (cells_new _ [.int .i64 (ka.idxOf (piece xb (i, j)) : Int), .int .i64 (pre.length : Int)] _) (by simp [Value.oneCell']) (by unfold maxLen; omega) (by omega) (by simp; omega) ?_; intro v' w1 hown' hgrow _; obtain ⟨g', cap', rfl⟩ := ownsRow_succ hown'; obtain ⟨hv1, hv2, hr2, hk2, hb2⟩ := boxed_append boq hro hsq (by omega) hown' hgrow; have hc1 := hv1.cell; have hf1 := hv1.frozen; have bn2 := ((bnq.alloc _).kept hgrow (fun e => by have := (hro.lt _ e.symm).1; omega)).other (B' := go) (by omega) (.slice (some ⟨g', 0, none⟩) (M.length + 1) cap'); have hc2 := bn2.cell; have hf2 := bn2.frozen)
        have hk3 : KeptIn (fun k => k < Wb.heap.size ∧ k ≠ g4 ∧ k ≠ go) W (w1.setCell ⟨go, 0, none⟩ (.slice (some ⟨g', 0, none⟩) (M.length + 1) cap')) := (hkq nq).trans (hb2.mono (fun k hk => ⟨hk.1, hk.2.2⟩))
        have hk4 := hk3.setCell (fun k hk => by have := hk3.size; omega) (B := g4) (by omega) (.int .i64 ((pre.length : Int) + 1))
        refine ⟨((show KeepsOthers W (W.drewN nq) from ⟨Nat.le_refl _, fun _ _ h _ => h⟩).trans (hk2.trans (KeepsOthers.setCell _ _ _))).from _, hk4, ⟨⟨⟨_, hv2.other (by omega) _, ?_, trivial⟩, ?_⟩, HK0.out.trans hk4⟩⟩
        · rw [List.map_append, List.map_cons, List.map_nil, Hm.out, List.length_append, List.flatMap_append]
          have h5 := hr2.kept (grownBy_setCell' (w1.setCell ⟨go, 0, none⟩ (.slice (some ⟨g', 0, none⟩) (M.length + 1) cap')) g4 (.int .i64 ((pre.length : Int) + 1))) (.inr (fun e => by have := (hr2.lt _ e).1; omega))
          simpa [twoV, natPair] using h5
        · have := bn2.set (.int .i64 ((pre.length : Int) + 1))
          simpa using this
      · rw [find_none_of _ _ hm] at hlk
        simp only [Option.map_none, Option.getD_none, Option.isSome_none] at hlk
        have hm1 := mres_miss ka (pre.map (fun x => piece xb x.1)) (piece xb (i, j)) hm
        rw [HM.out] at hm1
        have Hm := Lib.hid hm1
        clear hm1
        clear hm hrx hr hr' hrWb bX hK0 bn hmW bV2 bB2 bM2 hBb hB0
        gi_wp2
        refine round_quiet_lit (by kernel_rfl) (by kernel_rfl) (by kernel_rfl) (by repeat (first | exact letsOut_own | refine letsOut_then ?_ | refine letsOut_block ?_)) ?_
        repeat (any_goals (first | go_big_quiet_step (fail) | quiet_step (fail)))
        refine wpQuiet_nil ?_
        intro _ hw'
        obtain ⟨nq, hw''⟩ := hw'
        subst hw''
        have bnq : Boxed (W.drewN nq) g4 3 (.int .i64 (pre.length : Int)) := Hbn.out
        gi_wp2
        have hk4 := (hkq nq).setCell (fun k hk => by have := (hkq nq).size; omega) (B := g4) (by omega) (.int .i64 ((pre.length : Int) + 1))
        refine ⟨((show KeepsOthers W (W.drewN nq) from ⟨Nat.le_refl _, fun _ _ h _ => h⟩).trans (KeepsOthers.setCell _ _ _)).from _, hk4, ⟨⟨⟨_, (show Boxed (W.drewN nq) go 36 v from bo).other (by omega) _, ?_, trivial⟩, ?_⟩, HK0.out.trans hk4⟩⟩
        · rw [List.map_append, List.map_cons, List.map_nil, Hm.out]
          exact (show (W.drewN nq).ownsRow _ _ _ _ _ _ from hrow).kept (grownBy_setCell' (W.drewN nq) g4 _) (.inr (fun e => by have := (hrow.lt _ e).1; omega))
        · have := bnq.set (.int .i64 ((pre.length : Int) + 1))
          simpa using this
    case done2 =>
      rintro D2 yb Wc hD2 hyb ⟨⟨⟨v, bo, hrow, _⟩, bn⟩, hK0⟩ hKD3
      have Hyb := Lib.hid hyb
      clear hyb
      have co := bo.cell
      have hKD4 : (Wc.putObj D2 (.deferred none)).heap[D]? = some (.deferred (some [])) := (World.putObj_heap_other (by omega)).trans ((hK0.block D ⟨by omega, by omega, by omega⟩).trans hKD2)
      gi_wp2
      refine ⟨by simp, .inl ⟨_, _, rfl, run_takeDeferred hKD3, ?_⟩⟩
      refine ⟨by simp, .inl ⟨_, _, rfl, run_takeDeferred hKD4, ?_⟩⟩
      obtain ⟨A2, c2, rfl⟩ := ownsRow_slice hrow
      refine ⟨_, results_tmp2 rfl _ _ _, A2, _, c2, rfl, ?_, ?_⟩
      · have h5 := Rd.of_own (ownsRow_putObj (ownsRow_putObj hrow (.deferred none) hKD3 rfl) (.deferred none) hKD4 rfl)
        have h6 : matchB xa xb lo hi = mres ka (yb.map (fun x => piece xb x.1)) := by
          unfold matchB
          rw [← Hka.out, ← Hyb.out, List.map_map]
          rfl
        rw [h6, List.flatMap_map]
        exact h5
      · exact (hBb.trans (hK0.below (B := w.heap.size) (fun k hk => ⟨by omega, by omega, by omega⟩))).trans ((belowK_b (w := w) (Nat.le_refl _) Wc D2 _ _ (by omega) hKD3 rfl rfl).trans (belowK_b (w := w) (Nat.le_refl _) _ D _ _ (by omega) hKD4 rfl rfl))
    case stop2 =>
      rintro D c pre W _ _ h _
      exact h.elim
  case stop =>
    rintro D c pre W _ _ h _
    exact h.elim

end Go.Proofs.Ytdhibimhohkmoaa
