/- Package sign: the chains of a key, as an iterator yields them. -/
import Derived.Test.YtfdhiilhjfbehaaDoorS4
namespace Go.Proofs.YtfdhiilhjfbehaaDoor
section
open Go.RowKit
/-- An append, inside a fence. -/
theorem wpListIn_app {F : Fence} {n : Nat} {P : Program} {ops : Array Oper} {rest : List Oper} {o : Oper} {a : Act} {w : World} {Q : Exit → Act → World → Prop}
    (hg : o.guard = none) (s x : Operand) (t : TypeId) (hop : o.op = Op.call { callee := Callee.builtin Builtin.append, args := #[s, x], argTypes := #[t, t] })
    (e : TypeId) (i : TypeInfo) (z : Value) (bytes : Nat) (ht : P.underlying t = some (.slice e)) (hi : P.info? e = some i) (hz : i.zero = some z) (hs : i.size = 1) (hby : i.bytes = bytes) (hzs : z.cells.size = 1)
    (base : Nat) (hbase : base ≤ w.heap.size) (v : Value) (k : Nat) (xs : List Value) (hv : a.eval s = v) (h : App w base e v k xs) (A : Option Addr) (m c : Nat) (news : List Value) (hx : a.eval x = .slice A m c) (hrd : Rd w 1 A m news) (h1 : ∀ u ∈ news, u.oneCell' = true)
    (h63 : k + m ≤ maxLen) (hbytes : (k + m) * bytes ≤ 140737488355328)
    (hK : ∀ v' w', App w' base e v' (k + m) (xs ++ news) → Below base w w' → wpListIn F n P ops Q rest (a.put o.dst v') w') :
    wpListIn F n P ops Q (o :: rest) a w := by
  refine wpListIn_plain hg fun K hK' => ?_
  obtain ⟨v', w', hrun, r1, r2⟩ := run_app (P := P) w t o.type e i z bytes ht hi hz hs hby hzs base hbase v k xs h A m c news hrd h1 h63 hbytes
  unfold Oper.wpIn
  refine ⟨?_, ?_⟩
  · simp [Oper.about, hop, resolve, Target.leads, Sem.run_pure]
  · rw [Oper.semAt_plain F _ _ (by rw [hop]; intro c hc'; cases hc')]
    simp [execOp, hop, resolve, invoke, builtin, hv, hx, hrun, Result.andThen]
    exact hK' _ _ (hK v' w' r1 r2)
end
section
open Go.RowKit
theorem Globs.keptIn {S : Nat → Prop} {w w' : World} (h : Globs w) (hk : KeptIn S w w') (l0 : S 0) (l1 : S 1) : Globs w' :=
  ⟨(hk.cell (p := ⟨0, 0, none⟩) l0).trans h.i0, (hk.cell (p := ⟨0, 1, none⟩) l0).trans h.i1, (hk.cell (p := ⟨0, 2, none⟩) l0).trans h.i2, (hk.cell (p := ⟨0, 3, none⟩) l0).trans h.i3, (hk.cell (p := ⟨0, 4, none⟩) l0).trans h.i4, (hk.cell (p := ⟨0, 5, none⟩) l0).trans h.i5, (hk.cell (p := ⟨0, 6, none⟩) l0).trans h.i6, (hk.cell (p := ⟨0, 7, none⟩) l0).trans h.i7, fun j hj => (hk.cell (p := ⟨1, j, none⟩) l1).trans (h.k j hj)⟩
end
section
open Go.RowKit Go.Shelf
attribute [local go_sem] Oper.semAt_some
/-- A chain with its number, as it is yielded. -/
abbrev Vp := Nat × Sum32
def vpV (x : Vp) : Array Value := #[.int .i64 (x.1 : Int), .agg (sumC x.2).toArray]
def vpL (k : Sc) (i : UInt8) (c : Nat) : List Vp := (List.range c).map fun c => (c, startS k.s i (UInt8.ofNat c))
theorem vpL_succ (k : Sc) (i : UInt8) (c : Nat) : vpL k i (c + 1) = vpL k i c ++ [(c, startS k.s i (UInt8.ofNat c))] := by simp [vpL, List.range_succ]
theorem vpL_len (k : Sc) (i : UInt8) (c : Nat) : (vpL k i c).length = c := by simp [vpL]

theorem rd_start {w : World} {A : Option Addr} (x : Sum32) (i c : Nat) (hi : i < 256) (hc : c < 256) (h : Rd w 1 A (1 + 32 + 2) ([.int .u8 2] ++ sumC x ++ [.int .u8 (i : Int), .int .u8 (c : Int)])) : Rd w 1 A (1 + 32 + 2) ((2 :: x.1 ++ [UInt8.ofNat i, UInt8.ofNat c]).map byteV) := by
  have e : (2 :: x.1 ++ [UInt8.ofNat i, UInt8.ofNat c]).map byteV = [.int .u8 2] ++ sumC x ++ [.int .u8 (i : Int), .int .u8 (c : Int)] := by
    rw [List.map_append, List.map_cons, List.map_cons, List.map_cons, List.map_nil, byte_of i hi, byte_of c hc]; rfl
  rw [e]; exact h
theorem sum_start {w : World} {A : Option Addr} {cap : Nat} (x : Sum32) (i c : Nat) (hi : i < 256) (hc : c < 256) (hg : Globs w) (h : Rd w 1 A (1 + 32 + 2) ([.int .u8 2] ++ sumC x ++ [.int .u8 (i : Int), .int .u8 (c : Int)])) (hcap : 1 + 32 + 2 ≤ cap) :
    Calls Tryd.prog 23 #[.slice A 35 cap] w fun e w' => e = .returned (.agg (sumC (startS x (UInt8.ofNat i) (UInt8.ofNat c))).toArray) ∧ Below w.heap.size w w' :=
  Sum_any A (1 + 32 + 2) cap (2 :: x.1 ++ [UInt8.ofNat i, UInt8.ofNat c]) w hg (rd_start x i c hi hc h) (by omega) hcap
set_option maxRecDepth 100000 in
set_option maxHeartbeats 1000000 in
theorem values1_in (n : Nat) (hn : 1 ≤ n) (l B1 B2 : Nat) (S : Nat → Prop) (k : Sc) (i : Nat) (hi : i < 256) (J Jx : List Vp → World → Prop) (hJ : ∀ s W W', J s W → Below W.heap.size W W' → J s W')
    (hY : ∀ pre c X W, J pre W → pre.length < 67 → c < 67 → YieldAt Fence.wide (n - 1) Tryd.prog l (vpV (c, X)) W fun e W' =>
      (e = .returned (.bool true) ∧ J (pre ++ [(c, X)]) W' ∧ KeptIn S W W') ∨ (e = .returned (.bool false) ∧ Jx (pre ++ [(c, X)]) W'))
    (W : World) (hg : Globs W) (hB1 : ∀ j v, (secV k)[j]? = some v → W.cell? ⟨B1, j, none⟩ = some v) (hB2 : W.cell? ⟨B2, 0, none⟩ = some (.int .i64 (i : Int)))
    (hS : ∀ b, S b → b < W.heap.size) (l0 : S 0) (l1 : S 1) (lB1 : S B1) (lB2 : S B2) (h0 : J [] W) :
    CallsIn Fence.wide n Tryd.prog 63 #[.func (.yield l) #[] #[], .pointer (some ⟨B1, 0, none⟩), .pointer (some ⟨B2, 0, none⟩)] W fun e W' => (∃ v, e = .returned v) ∧
      ((∃ ys : List Vp, ys = vpL k (UInt8.ofNat i) 67 ∧ J ys W') ∨ (∃ pre, True ∧ Jx pre W')) := by
  obtain ⟨i0, hi0, hz0, hz1, hz2⟩ := info_parts info5
  refine callsIn_of_wp Tryd.func63 rfl trivial ?_ rfl
  simp only [Tryd.ntmps63, List.size_toArray, List.length_cons, List.length_nil, Nat.reduceAdd, Nat.reduceSub, Array.replicate_succ, Array.replicate_zero, List.push_toArray, List.append_toArray, List.nil_append, List.cons_append]
  have Hg := Lib.hid hg
  have HB1 := Lib.hid hB1
  have HB2 := Lib.hid hB2
  have HS := Lib.hid hS
  have HY := Lib.hid hY
  have HJ := Lib.hid hJ
  clear hg hB1 hB2 hS hY hJ
  gi_wp2
  gi_loopw [6] (fun v6 wr => ∃ c : Nat, v6 = .int .i64 (c : Int) ∧ c ≤ 67 ∧ J (vpL k (UInt8.ofNat i) c) wr ∧ KeptIn S W wr) (fun v6 _ => 67 - (intOf v6).toNat)
  case atStart => exact ⟨0, rfl, by omega, h0, KeptIn.refl _ _⟩
  case round =>
    obtain ⟨c, rfl, hc, hJs, hnx⟩ := hrel
    have HJs := Lib.hid hJs
    have Hnx := Lib.hid hnx
    have hszr := hnx.size
    clear hJs hnx h0
    by_cases hlt : c < 67
    · have d0 : decide ((c : Int) < 67) = true := decide_eq_true (by omega)
      have c2 : wr.cell? ⟨B2, 0, none⟩ = some (.int .i64 (i : Int)) := (Hnx.out.cell (p := ⟨B2, 0, none⟩) lB2).trans HB2.out
      have hxr : Rd wr 1 (some ⟨B1, 0, none⟩) 32 (sumC k.s) := ⟨by rw [sumC_len], by omega, fun _ => ⟨_, _, rfl, fun j u hu => by rw [Nat.zero_add]; exact (Hnx.out.cell (p := ⟨B1, j, none⟩) lB1).trans (HB1.out j u (sec_seed k hu))⟩⟩
      have Hxr := Lib.hid hxr
      have hgr : Globs wr := Hg.out.keptIn Hnx.out l0 l1
      have Hgr := Lib.hid hgr
      have hu1 := u8_of i hi
      have hu2 := u8_of c (by omega)
      have hlW : ∀ b, S b → b < wr.heap.size := fun b hb => Nat.lt_of_lt_of_le (HS.out b hb) hszr
      have HlW := Lib.hid hlW
      obtain ⟨X, hX⟩ : ∃ X, X = startS k.s (UInt8.ofNat i) (UInt8.ofNat c) := ⟨_, rfl⟩
      have HX := Lib.hid hX
      clear hgr hxr hlW hX
      gi_wp2_with (first | (gi_at_builtin; refine wpListIn_app rfl (.tmp 9) (.tmp 11) 22 rfl 5 i0 (.int .u8 0) 1 Tryd.underlying22 hi0 hz0 hz1 hz2 rfl wr.heap.size (by simp) _ _ _ rfl (.inr (own_lit wr 5 (.int .u8 2))) (some ⟨B1, 0, none⟩) 32 32 (sumC k.s) rfl (Hxr.out.alloc _) (oneB _) (by unfold maxLen; omega) (by omega) ?_; intro v' w2 happ hb1; have Happ := Lib.hid happ; have Hb1 := Lib.hid (((Below.refl wr.heap.size wr).alloc (Nat.le_refl _) (.cells #[.int .u8 2] 5)).trans hb1); have hsz2 := Hb1.out.size; clear happ hb1; have c2 : w2.cell? ⟨B2, 0, none⟩ = some (.int .i64 (i : Int)) := (Hb1.out.cell (World.block_lt_of_cell? wr _ c2)).trans c2) | (gi_at_builtin; refine wpListIn_app rfl (.tmp 15) (.tmp 20) 22 rfl 5 i0 (.int .u8 0) 1 Tryd.underlying22 hi0 hz0 hz1 hz2 rfl wr.heap.size (by simp; omega) _ _ _ rfl (Happ.out.litE _) (some ⟨w2.heap.size, 0, none⟩) 2 2 [.int .u8 (i : Int), .int .u8 (c : Int)] rfl ((Blk.new w2 5 #[.int .u8 (i : Int), .int .u8 (c : Int)]).rd (xs := [.int .u8 (i : Int), .int .u8 (c : Int)]) (by simp)) (by simp [Value.oneCell']) (by unfold maxLen; omega) (by omega) ?_; intro v2 w3 happ2 hb3; obtain ⟨A3, c3, rfl, hc3, hrd3⟩ := happ2.rd; have Hb3 := Lib.hid ((Hb1.out.alloc hsz2 (.cells #[.int .u8 (i : Int), .int .u8 (c : Int)] 5)).trans hb3); have Hsm := Lib.hid (sum_start k.s i c hi (by omega) (Hgr.out.below Hb3.out) hrd3 hc3); rw [← HX.out] at Hsm; clear happ2 hb3 hrd3) | (refine ⟨trivial, ?_⟩; gi_at_call 23; refine (callsIn_wide.2 Hsm.out).mono ?_; rintro e w4 ⟨rfl, hb4⟩; have Hb4 := Lib.hid (Hb3.out.trans (hb4.mono Hb3.out.size)); clear hb4; obtain ⟨fn, tmps, assign, body, hy, hR⟩ := HY.out (vpL k (UInt8.ofNat i) c) c X w4 (HJ.out _ _ _ HJs.out Hb4.out) (by rw [vpL_len]; exact hlt) hlt; unfold vpV at hy; dsimp only at hy))
      have hXs : vpL k (UInt8.ofNat i) c ++ [(c, X)] = vpL k (UInt8.ofNat i) (c + 1) := by rw [vpL_succ, HX.out]
      have HXs := Lib.hid hXs
      clear hy hXs c2 hu1 hu2 d0
      refine hR.mono ?_
      rintro e W3 (⟨rfl, hJ3, hk3⟩ | ⟨rfl, hJx3⟩)
      · have hk4 : KeptIn S wr W3 := (KeptIn.of_below Hb4.out HlW.out).trans hk3
        have hk5 := Lib.hid (Hnx.out.trans hk4)
        rw [HXs.out] at hJ3
        have HJ3 := Lib.hid hJ3
        clear hk3 hk4 hJ3
        gi_wp2
        exact ⟨⟨c + 1, by go_num, by omega, HJ3.out, hk5.out⟩, by simp [intOf]; omega⟩
      · gi_wp2
        refine bodyPost_ret (results_none rfl _ _ _) rfl ?_
        exact ⟨⟨_, rfl⟩, .inr ⟨_, trivial, hJx3⟩⟩
    · obtain rfl : c = 67 := by omega
      gi_wp2
      go_end0
      exact ⟨⟨_, rfl⟩, .inl ⟨_, rfl, HJs.out⟩⟩
theorem values_stops (n : Nat) (hn : 1 ≤ n) (B1 B2 : Nat) (S : Nat → Prop) (k : Sc) (i : Nat) (hi : i < 256) (w : World) (hg : Globs w) (hB1 : ∀ j v, (secV k)[j]? = some v → w.cell? ⟨B1, j, none⟩ = some v) (hB2 : w.cell? ⟨B2, 0, none⟩ = some (.int .i64 (i : Int)))
    (hS : ∀ b, S b → b < w.heap.size) (l0 : S 0) (l1 : S 1) (lB1 : S B1) (lB2 : S B2) :
    SeqStopsK Fence.wide n Tryd.prog 63 #[.pointer (some ⟨B1, 0, none⟩), .pointer (some ⟨B2, 0, none⟩)] vpV (KeptIn S) (fun ys => ys = vpL k (UInt8.ofNat i) 67) (fun _ => True) 67 w :=
  fun l J Jx W hW hA _ hY h0 =>
    values1_in n hn l B1 B2 S k i hi J Jx (fun s X Y hs hb => hA s X Y none hs ⟨hb.os, hb.tape, hb.output, hb.size, fun b hb2 _ => hb.block b hb2⟩ (fun _ e => by cases e)) (fun pre c X W h1 h2 _ => hY pre (c, X) W h1 h2) W (hg.below hW) (fun j v hv => (hW.cell (World.block_lt_of_cell? w _ (hB1 j v hv))).trans (hB1 j v hv)) ((hW.cell (World.block_lt_of_cell? w _ hB2)).trans hB2)
      (fun b hb => Nat.lt_of_lt_of_le (hS b hb) hW.size) l0 l1 lB1 lB2 h0
/-- The same, the number below 67 for the body's sake. -/
def vpM (x : Vp) : Array Value := vpV (x.1 % 67, x.2)
theorem values_stopsM (n : Nat) (hn : 1 ≤ n) (B1 B2 : Nat) (S : Nat → Prop) (k : Sc) (i : Nat) (hi : i < 256) (w : World) (hg : Globs w) (hB1 : ∀ j v, (secV k)[j]? = some v → w.cell? ⟨B1, j, none⟩ = some v) (hB2 : w.cell? ⟨B2, 0, none⟩ = some (.int .i64 (i : Int)))
    (hS : ∀ b, S b → b < w.heap.size) (l0 : S 0) (l1 : S 1) (lB1 : S B1) (lB2 : S B2) :
    SeqStopsK Fence.wide n Tryd.prog 63 #[.pointer (some ⟨B1, 0, none⟩), .pointer (some ⟨B2, 0, none⟩)] vpM (KeptIn S) (fun ys => ys = vpL k (UInt8.ofNat i) 67) (fun _ => True) 67 w :=
  fun l J Jx W hW hA _ hY h0 =>
    values1_in n hn l B1 B2 S k i hi J Jx (fun s X Y hs hb => hA s X Y none hs ⟨hb.os, hb.tape, hb.output, hb.size, fun b hb2 _ => hb.block b hb2⟩ (fun _ e => by cases e)) (fun pre c X W h1 h2 h3 => by have h := hY pre (c, X) W h1 h2; unfold vpM at h; dsimp only at h; rw [Nat.mod_eq_of_lt h3] at h; exact h) W (hg.below hW) (fun j v hv => (hW.cell (World.block_lt_of_cell? w _ (hB1 j v hv))).trans (hB1 j v hv)) ((hW.cell (World.block_lt_of_cell? w _ hB2)).trans hB2)
      (fun b hb => Nat.lt_of_lt_of_le (hS b hb) hW.size) l0 l1 lB1 lB2 h0
set_option maxRecDepth 100000 in
theorem values_in (n : Nat) (k : Sc) (i : Nat) (w : World) :
    CallsIn Fence.wide n Tryd.prog 54 #[.agg (secV k).toArray, .int .i64 (i : Int)] w fun e w' =>
      e = .returned (.func (.func 63) #[] #[.pointer (some ⟨w.heap.size, 0, none⟩), .pointer (some ⟨w.heap.size + 1, 0, none⟩)]) ∧
      w' = (w.alloc (.cells (secV k).toArray 28)).alloc (.cells #[.int .i64 (i : Int)] 3) := by
  refine callsIn_of_wp Tryd.func54 rfl trivial ?_ rfl
  simp only [Tryd.ntmps54, List.size_toArray, List.length_cons, List.length_nil, Nat.reduceAdd, Nat.reduceSub, Array.replicate_succ, Array.replicate_zero, List.push_toArray, List.append_toArray, List.nil_append, List.cons_append]
  gi_wp2
  go_ret
  exact ⟨rfl, rfl⟩
end
end Go.Proofs.YtfdhiilhjfbehaaDoor
