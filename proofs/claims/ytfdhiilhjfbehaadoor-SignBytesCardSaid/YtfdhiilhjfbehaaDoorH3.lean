/- SHA-256 block by block: what the plain words answer for the loops. Package hash: Sum. Package hash: Leaf, Pair. Package hash: leaves. slices.Chunk of two, over hashes: the iterator. -/
import Derived.Test.YtfdhiilhjfbehaaDoorH2
import Derived.Test.YtfdhiilhjfbehaaDoorH1
import Derived.Great.BuildSlice
namespace Go.Proofs.YtfdhiilhjfbehaaDoor
section
open Go.RowKit

theorem words0_congr {b b' : List UInt8} : ∀ t, (∀ j, j < 4 * t → b.getD j 0 = b'.getD j 0) → words0 b t = words0 b' t
  | 0, _ => rfl
  | t + 1, h => by rw [words0, words0, words0_congr t (fun j hj => h j (by omega)), h _ (by omega), h _ (by omega), h _ (by omega), h _ (by omega)]
theorem words_congr {b b' : List UInt8} (h : ∀ j, j < 64 → b.getD j 0 = b'.getD j 0) : ∀ k, words b k = words b' k
  | 0 => words0_congr 16 h
  | k + 1 => by rw [words, words, words_congr h k]
theorem stBlock_congr {b b' : List UInt8} (h : ∀ j, j < 64 → b.getD j 0 = b'.getD j 0) (s : St) : stBlock s b = stBlock s b' := by
  unfold stBlock; rw [words_congr h]
theorem stBlock_take (s : St) (b : List UInt8) : stBlock s (b.take 64) = stBlock s b :=
  stBlock_congr (fun j hj => by rw [List.getD_eq_getElem?_getD, List.getD_eq_getElem?_getD, List.getElem?_take, if_pos hj]) s
def stRun (s : St) (P : List UInt8) : Nat → St
  | 0 => s
  | k + 1 => stBlock (stRun s P k) (P.drop (64 * k))
theorem stRun_succ (s : St) (P : List UInt8) : ∀ n, stRun s P (n + 1) = stRun (stBlock s P) (P.drop 64) n
  | 0 => by simp [stRun]
  | n + 1 => by
    rw [stRun, stRun_succ s P n]
    conv => rhs; rw [stRun]
    rw [List.drop_drop, show 64 + 64 * n = 64 * (n + 1) from by omega]
theorem stBlocks_run : ∀ (n : Nat) (s : St) (P : List UInt8), stBlocks n s P = stRun s P n
  | 0, _, _ => rfl
  | n + 1, s, P => by rw [stRun_succ, stBlocks, stBlocks_run n, stBlock_take]
theorem padded_length (b : List UInt8) : (padded b).length = b.length + 9 + padLen b.length := by
  simp [padded]; omega
theorem padded_blocks (b : List UInt8) : (padded b).length % 64 = 0 := by
  rw [padded_length]; unfold padLen; omega
theorem padded_drop (b : List UInt8) (k : Nat) (h : k ≤ b.length) : (padded b).drop k = b.drop k ++ 0x80 :: List.replicate (padLen b.length) 0 ++ (List.range 8).map (lenByte b.length) := by
  unfold padded
  rw [List.append_assoc, List.append_assoc, List.drop_append_of_le_length h]
theorem stRun_step (b : List UInt8) (k : Nat) (h : 64 * (k + 1) ≤ b.length) : stRun stInit (padded b) (k + 1) = stBlock (stRun stInit (padded b) k) (b.drop (64 * k)) := by
  rw [stRun]
  refine stBlock_congr (fun j hj => ?_) _
  rw [padded_drop b _ (by omega), List.getD_eq_getElem?_getD, List.getD_eq_getElem?_getD, List.append_assoc, List.getElem?_append_left (by rw [List.length_drop]; omega)]
theorem sha_run (b : List UInt8) : sha b = stBytes (stRun stInit (padded b) ((padded b).length / 64)) := by
  unfold sha; rw [stBlocks_run]
theorem stBytes_length (s : St) : (stBytes s).length = 32 := rfl
theorem sha_length (b : List UInt8) : (sha b).length = 32 := stBytes_length _
def stList (s : St) : List UInt32 := [s.a, s.b, s.c, s.d, s.e, s.f, s.g, s.h]
theorem stBytes_get (s : St) (i : Nat) (hi : i < 32) : (stBytes s)[i]? = some (UInt8.ofNat (((stList s).getD (i / 4) 0).toNat / 2 ^ (24 - 8 * (i % 4)))) := by
  have : i = 0 ∨ i = 1 ∨ i = 2 ∨ i = 3 ∨ i = 4 ∨ i = 5 ∨ i = 6 ∨ i = 7 ∨ i = 8 ∨ i = 9 ∨ i = 10 ∨ i = 11 ∨ i = 12 ∨ i = 13 ∨ i = 14 ∨ i = 15 ∨ i = 16 ∨ i = 17 ∨ i = 18 ∨ i = 19 ∨ i = 20 ∨ i = 21 ∨ i = 22 ∨ i = 23 ∨ i = 24 ∨ i = 25 ∨ i = 26 ∨ i = 27 ∨ i = 28 ∨ i = 29 ∨ i = 30 ∨ i = 31 := by omega
  rcases this with rfl | rfl | rfl | rfl | rfl | rfl | rfl | rfl | rfl | rfl | rfl | rfl | rfl | rfl | rfl | rfl | rfl | rfl | rfl | rfl | rfl | rfl | rfl | rfl | rfl | rfl | rfl | rfl | rfl | rfl | rfl | rfl <;> simp [stBytes, stList]

/-- The rest of a slice from place i on, as the walk writes it. -/
theorem rest_rd {len cap i b off : Nat} {xs : List UInt8} {w0 : World} (h : Rd w0 1 (some ⟨b, off, none⟩) len (xs.map byteV)) (hi : i ≤ len) (hc : len ≤ cap) :
    Rd w0 1 (if cap = i then some ⟨b, off, none⟩ else some ⟨b, off + i, none⟩) (len - i) ((xs.drop i).map byteV) := by
  have hl := h.len1
  by_cases hci : cap = i
  · obtain rfl : i = len := by omega
    rw [Nat.sub_self, List.drop_of_length_le (by omega)]
    exact Rd.nil _ _ _
  · rw [if_neg hci]
    refine ⟨by simp; omega, by have := h.le; omega, fun hp => ⟨b, off + i, rfl, fun j u hu => ?_⟩⟩
    rw [List.getElem?_map, List.getElem?_drop] at hu
    rw [Nat.add_assoc]
    obtain ⟨b', off', e, hcell⟩ := h.2.2 (by omega)
    cases e
    exact hcell _ u (by rw [List.getElem?_map]; exact hu)

/-- The two package variables. -/
structure Globs (w : World) : Prop where
  i0 : w.cell? ⟨0, 0, none⟩ = some (.int .u32 1779033703)
  i1 : w.cell? ⟨0, 1, none⟩ = some (.int .u32 3144134277)
  i2 : w.cell? ⟨0, 2, none⟩ = some (.int .u32 1013904242)
  i3 : w.cell? ⟨0, 3, none⟩ = some (.int .u32 2773480762)
  i4 : w.cell? ⟨0, 4, none⟩ = some (.int .u32 1359893119)
  i5 : w.cell? ⟨0, 5, none⟩ = some (.int .u32 2600822924)
  i6 : w.cell? ⟨0, 6, none⟩ = some (.int .u32 528734635)
  i7 : w.cell? ⟨0, 7, none⟩ = some (.int .u32 1541459225)
  k : ∀ j, j < 64 → w.cell? ⟨1, j, none⟩ = some (.int .u32 ((roundsL.getD j 0).toNat : Int))
theorem Globs.keep {w w' : World} (h : Globs w) (hk : ∀ p v, w.cell? p = some v → w'.cell? p = some v) : Globs w' :=
  ⟨hk _ _ h.i0, hk _ _ h.i1, hk _ _ h.i2, hk _ _ h.i3, hk _ _ h.i4, hk _ _ h.i5, hk _ _ h.i6, hk _ _ h.i7, fun j hj => hk _ _ (h.k j hj)⟩
theorem Globs.below {w w' : World} (h : Globs w) (hb : Below w.heap.size w w') : Globs w' := h.keep fun p _ hp => (hb.cell (World.block_lt_of_cell? w p hp)).trans hp
theorem Globs.size {w : World} (h : Globs w) : 1 < w.heap.size := World.block_lt_of_cell? w _ (h.k 0 (by omega))

/-- .. as one step of the walk. -/
theorem wpList_app {P : Program} {ops : Array Oper} {rest : List Oper} {o : Oper} {a : Act} {w : World} {Q : Exit → Act → World → Prop}
    (hg : o.guard = none) (s x : Operand) (t : TypeId) (hop : o.op = Op.call { callee := Callee.builtin Builtin.append, args := #[s, x], argTypes := #[t, t] })
    (e : TypeId) (i : TypeInfo) (z : Value) (bytes : Nat) (ht : P.underlying t = some (.slice e)) (hi : P.info? e = some i) (hz : i.zero = some z) (hs : i.size = 1) (hby : i.bytes = bytes) (hzs : z.cells.size = 1)
    (base : Nat) (hbase : base ≤ w.heap.size) (v : Value) (n : Nat) (xs : List Value) (hv : a.eval s = v) (h : App w base e v n xs) (A : Option Addr) (m c : Nat) (news : List Value) (hx : a.eval x = .slice A m c) (hrd : Rd w 1 A m news) (h1 : ∀ u ∈ news, u.oneCell' = true)
    (h63 : n + m ≤ maxLen) (hbytes : (n + m) * bytes ≤ 140737488355328)
    (hK : ∀ v' w', App w' base e v' (n + m) (xs ++ news) → Below base w w' → wpList P ops Q rest (a.put o.dst v') w') :
    wpList P ops Q (o :: rest) a w := by
  have h2 := step_app (P := P) (ops := ops) (Q := Q) (E := True) (K := wpList P ops Q rest) hg s x t hop e i z bytes ht hi hz hs hby hzs base hbase v n xs hv h A m c news hx hrd h1 h63 hbytes hK
  have hw : Region.wanted o (yielded ops a.tmps) = true := by simp [Region.wanted, hg]
  rw [if_pos hw] at h2
  rw [wpList, if_pos hw]
  exact .inl h2
theorem info5 : (Tryd.prog.info? 5).map (fun i => (i.zero, i.size, i.bytes)) = some (some (.int .u8 0), 1, 1) := by kernel_rfl
theorem oneB (bs : List UInt8) : ∀ u ∈ bs.map byteV, u.oneCell' = true := by
  intro u hu
  obtain ⟨b, _, rfl⟩ := List.mem_map.1 hu
  rfl
set_option maxHeartbeats 1000000 in
/-- slices.Clone of bytes. -/
theorem Clone_any (A : Option Addr) (len cap : Nat) (bs : List UInt8) (w : World) (hr : Rd w 1 A len (bs.map byteV)) (hlen : len ≤ 8796093022208) :
    Calls Tryd.prog 47 #[.slice A len cap] w fun e w' => ∃ v, e = .returned v ∧ App w' w.heap.size 5 v len (bs.map byteV) ∧ Below w.heap.size w w' := by
  obtain ⟨i0, hi0, hz0, hz1, hz2⟩ := info_parts info5
  have hl := hr.len1
  have hE : ∀ W, (binOp .eql 22 (.slice A len cap) (.slice none 0 0)).run Tryd.prog W = .ok (.bool (A.isNone)) W := fun W => Lib.run_eql_slice_nil W 22 5 _ _ _ _ _ Tryd.underlying22
  have h1 := oneB bs
  go_enter Tryd.func47, Tryd.ntmps47
  cases A with
  | none =>
    have h0 : len = 0 := by
      rcases Nat.eq_zero_or_pos len with h | h
      · exact h
      · obtain ⟨b, off, e, _⟩ := hr.2.2 h
        cases e
    subst h0
    obtain rfl : bs = [] := List.eq_nil_of_length_eq_zero hl
    go_wp2_with fail
    go_ret
    exact ⟨_, rfl, .inr (World.ownsRow_nil _ _ _ _), Below.refl _ _⟩
  | some ad =>
    go_wp2_with (at_builtin; refine wpList_app rfl (.tmp 5) (.tmp 6) 22 rfl 5 i0 (.int .u8 0) 1 Tryd.underlying22 hi0 hz0 hz1 hz2 rfl w.heap.size (by simp) _ 0 [] rfl (.inl ⟨rfl, rfl, _, rfl⟩) (some ad) len cap (bs.map byteV) rfl (hr.alloc _) h1 (by unfold maxLen; omega) (by omega) ?_; intro v' w1 happ hb1)
    go_ret
    exact ⟨_, rfl, by simpa using happ, ((Below.refl _ _).alloc (Nat.le_refl _) _).trans hb1⟩
end

section
open Go.RowKit

def slLen : Value → Nat
  | .slice _ n _ => n
  | _ => 0
def stArr (s : St) : Array Value := #[u32V s.a, u32V s.b, u32V s.c, u32V s.d, u32V s.e, u32V s.f, u32V s.g, u32V s.h]
theorem Below.setRow {n : Nat} {a w : World} (h : Below n a w) {g : Nat} (hg : n ≤ g) (cs : Array Value) : Below n a (w.setRow g cs) :=
  ⟨h.os, h.tape, h.output, by have := h.size; simpa using this, fun k hk => (setRow_other w g k cs (by omega)).trans (h.block k hk)⟩
theorem size22' : Tryd.prog.cellsOf 5 = 1 := by kernel_rfl
theorem lenByte_val (n j : Nat) (hj : j < 8) (hn : n ≤ 8796093022208) : (n : Int) * 8 / 2 ^ (56 - 8 * j) % 256 = ((lenByte n j).toNat : Int) := by
  unfold lenByte
  rw [Nat.mod_eq_of_lt (a := n * 8) (by omega), UInt8.toNat_ofNat', show 8 * (7 - j) = 56 - 8 * j from by omega]
  simp
theorem und32 : Tryd.prog.underlying 26 = some (.array 32 5) := by kernel_rfl
theorem size32 (cs : Array Value) (h : cs.size = 32) : (Tryd.prog.info? 26).map (·.size) = some cs.size := by rw [h]; kernel_rfl
theorem stBytes_length' {s : St} : (stBytes s).length = 32 := rfl
theorem set_next (l : List UInt8) (i : Nat) (b : UInt8) (hl : l.length = 32) (hb : l[i]? = some b) : ((l.take i ++ List.replicate (32 - i) 0).map byteV).set i (.int .u8 (b.toNat : Int)) = (l.take (i + 1) ++ List.replicate (32 - (i + 1)) 0).map byteV := by
  have hi : i < l.length := (List.getElem?_eq_some_iff.1 hb).1
  rw [show (Value.int .u8 (b.toNat : Int)) = byteV b from rfl, ← List.map_set, List.set_append_right _ _ (by rw [List.length_take]; omega), List.length_take, Nat.min_eq_left (by omega), Nat.sub_self, show 32 - i = (32 - (i + 1)) + 1 from by omega, List.replicate_succ, List.set_cons_zero, List.take_add_one, hb]
  simp
theorem padLen_lt (n : Nat) : padLen n < 64 := Nat.mod_lt _ (by omega)
def sumV (h : List UInt8) : Value := .agg (h.map byteV).toArray

set_option maxRecDepth 100000 in
set_option maxHeartbeats 1500000 in
theorem Sum_any (A : Option Addr) (len cap : Nat) (bs : List UInt8) (w : World) (hg : Globs w) (hr : Rd w 1 A len (bs.map byteV)) (hlen : len ≤ 8796093022208) (hcap : len ≤ cap) :
    Calls Tryd.prog 23 #[.slice A len cap] w fun e w' => e = .returned (sumV (sha bs)) ∧ Below w.heap.size w w' := by
  have hl := hr.len1
  have hws := hg.size
  go_enter Tryd.func23, Tryd.ntmps23
  go_upto_region 1 with fail
  obtain ⟨w1, hw1⟩ : ∃ w1, w1 = w.alloc (.cells (List.replicate 32 (.int .u8 0)).toArray 26) := ⟨_, rfl⟩
  have hB1 : Below w.heap.size w w1 := by rw [hw1]; exact (Below.refl _ _).alloc (Nat.le_refl _) _
  have hs1 : w1.heap.size = w.heap.size + 1 := by rw [hw1]; simp
  have hO1 : Blk w1 w.heap.size 26 (List.replicate 32 (.int .u8 0)).toArray := by rw [hw1]; exact Blk.new _ _ _
  simp only [List.replicate_succ, List.replicate_zero] at hw1
  rw [← hw1]
  clear hw1
  have hg1 := hg.below hB1
  have a0 := hg1.i0
  have a1 := hg1.i1
  have a2 := hg1.i2
  have a3 := hg1.i3
  have a4 := hg1.i4
  have a5 := hg1.i5
  have a6 := hg1.i6
  have a7 := hg1.i7
  go_wp2_with fail
  clear a0 a1 a2 a3 a4 a5 a6 a7
  have hS1 : Blk (w1.alloc (.cells (stArr stInit) 80)) (w.heap.size + 1) 80 (stArr (stRun stInit (padded bs) 0)) := by
    have := Blk.new w1 80 (stArr stInit)
    rw [hs1] at this
    exact this
  have hB2 : Below (w.heap.size + 1) w1 (w1.alloc (.cells (stArr stInit) 80)) := (Below.refl _ _).alloc (by omega) _
  go_loopw [4] (fun v wr => ∃ (k n : Nat) (A' : Option Addr) (c' : Nat), n + 64 * k = len ∧ v = .slice A' n c' ∧ n ≤ c' ∧ Rd w 1 A' n ((bs.drop (64 * k)).map byteV) ∧ Blk wr (w.heap.size + 1) 80 (stArr (stRun stInit (padded bs) k)) ∧ Below (w.heap.size + 1) w1 wr) (fun v _ => slLen v)
  case atStart => exact ⟨0, len, A, cap, by omega, rfl, hcap, by simpa using hr, hS1, hB2⟩
  case round =>
    obtain ⟨k, n, A', c', hn, rfl, hnc, hR, hS, hB⟩ := hrel
    clear hS1 hB2 hcap hr
    by_cases hlt : 64 ≤ n
    · obtain ⟨b, off, rfl, _⟩ := hR.2.2 (by omega)
      have hR2 := rest_rd hR hlt hnc
      have hRr : Rd wr 1 (some ⟨b, off, none⟩) n ((bs.drop (64 * k)).map byteV) := (hR.below hB1).keep fun p _ hp => ((hB.mono (Nat.le_refl _)).cell (by have := World.block_lt_of_cell? w1 p hp; omega)).trans hp
      have hgr : Globs wr := hg1.keep fun p _ hp => (hB.cell (by have := World.block_lt_of_cell? w1 p hp; omega)).trans hp
      have hst := stRun_step bs k (by omega)
      have hAb : ∀ b' off', (some ⟨b, off, none⟩ : Option Addr) = some ⟨b', off', none⟩ → b' ≠ w.heap.size + 1 := fun b' off' e => by
        cases e
        obtain ⟨b', off', e', hc⟩ := hR.2.2 (by omega)
        cases e'
        have := World.block_lt_of_cell? w _ (hc 0 _ (List.getElem?_eq_getElem (by rw [hR.1]; omega)))
        simp at this
        omega
      have hblk := Block_any (w.heap.size + 1) (stRun stInit (padded bs) k) _ n c' _ wr hS hRr hlt hAb hgr.k (by have := hg.size; omega)
      have hlen2 : n - 64 + 64 * (k + 1) = len := by omega
      have hdr : (bs.drop (64 * k)).drop 64 = bs.drop (64 * (k + 1)) := by rw [List.drop_drop, show 64 * k + 64 = 64 * (k + 1) from by omega]
      have hsz : w.heap.size + 1 < wr.heap.size := hS.lt
      rw [hdr] at hR2
      have Hst := Lib.hid hst
      have Hblk := Lib.hid hblk
      have HB := Lib.hid hB
      have HR2 := Lib.hid hR2
      clear hst hblk hB hR2 hdr hAb hRr hR hS hgr
      go_wp2_with fail
      refine Hblk.out.mono ?_
      rintro e w' ⟨rfl, hk2, hb2⟩
      have Hb2 := Lib.hid hb2
      have Hk2 := Lib.hid hk2
      clear hb2 hk2
      go_wp2_with fail
      refine ⟨⟨k + 1, n - 64, _, c' - 64, hlen2, rfl, by omega, HR2.out, by rw [Hst.out]; exact Hb2.out, HB.out.trans (Hk2.out.below (fun k hk => ⟨by omega, by omega⟩))⟩, by simp only [slLen]; omega⟩
    · have hR1 : Rd wr 1 A' n ((bs.drop (64 * k)).map byteV) := (hR.below hB1).keep fun p _ hp => ((hB.mono (Nat.le_refl _)).cell (by have := World.block_lt_of_cell? w1 p hp; omega)).trans hp
      have hgr : Globs wr := hg1.keep fun p _ hp => (hB.cell (by have := World.block_lt_of_cell? w1 p hp; omega)).trans hp
      have hOr : Blk wr w.heap.size 26 (List.replicate 32 (.int .u8 0)).toArray := hO1.below hB (by omega)
      have hsz : w.heap.size + 1 < wr.heap.size := hS.lt
      have hBw : Below w.heap.size w wr := hB1.trans (hB.mono (by omega))
      have hclone := Clone_any A' n c' _ wr hR1 (by omega)
      have hdl : (bs.drop (64 * k)).length = n := by rw [List.length_drop]; omega
      have hpl := padded_drop bs (64 * k) (by omega)
      have hpd : padLen bs.length = (119 - n % 64) % 64 := by unfold padLen; congr 2; omega
      obtain ⟨i0, hi0, hz0, hz1, hz2⟩ := info_parts info5
      generalize hrs : bs.drop (64 * k) = rs at *
      generalize hpz : padLen bs.length = pz at *
      have Hpd := Lib.hid hpd
      have Hcl := Lib.hid hclone
      have Hpl := Lib.hid hpl
      have Hgr := Lib.hid hgr
      have HS := Lib.hid hS
      have HO := Lib.hid hOr
      have HBw := Lib.hid hBw
      clear hpd hclone hpl hgr hS hOr hBw hR hR1 hB hO1 hg hg1 hB1 hs1 hrs hpz
      obtain ⟨wc, hwc⟩ : ∃ wc, wc = wr := ⟨_, rfl⟩
      subst hwc
      go_wp2_with fail
      refine Hcl.out.mono ?_
      rintro e wd ⟨v, rfl, happ, hbd⟩
      have hszd := hbd.size
      go_wp2_with (at_builtin; refine wpList_app rfl (.tmp 19) (.tmp 20) 22 rfl 5 i0 (.int .u8 0) 1 Tryd.underlying22 hi0 hz0 hz1 hz2 rfl wc.heap.size (by simp; omega) _ n _ rfl (happ.below ((Below.refl wd.heap.size wd).alloc (Nat.le_refl _) _) (Nat.le_refl _)) (some ⟨wd.heap.size, 0, none⟩) 1 1 [.int .u8 128] rfl ⟨rfl, by omega, fun _ => ⟨_, _, rfl, fun j u hu => by have := cells_new wd [.int .u8 128] 5 j u hu; rwa [Addr.add_mid] at this⟩⟩ (by simp [Value.oneCell']) (by unfold maxLen; omega) (by omega) ?_; intro v1 w2 happ1 hb1)
      have hA2 : App w2 wc.heap.size 5 v1 (n + 1 + 0) ((rs ++ 0x80 :: List.replicate 0 0).map byteV) := by simpa [byteV] using happ1
      have hb2 : Below wc.heap.size wc w2 := (hbd.alloc hszd _).trans hb1
      clear happ1 hb1 happ hbd
      go_loopw [5] (fun v wx => ∃ z : Nat, z ≤ pz ∧ App wx wc.heap.size 5 v (n + 1 + z) ((rs ++ 0x80 :: List.replicate z 0).map byteV) ∧ Below wc.heap.size wc wx) (fun v _ => 200 - slLen v)
      case atStart => exact ⟨0, by omega, hA2, hb2⟩
      case round =>
        obtain ⟨z, hz, happ, hB⟩ := hrel
        obtain ⟨Az, cz, rfl, hcz, hRz⟩ := happ.rd
        clear hA2 hb2
        have hpz64 : pz < 64 := by have := Hpd.out; omega
        by_cases h56 : (n + 1 + z) % 64 = 56
        · obtain rfl : z = pz := by have := Hpd.out; omega
          have hA3 : App wr wc.heap.size 5 (.slice Az (n + 1 + z) cz) (n + 1 + z + 0) ((rs ++ 0x80 :: List.replicate z 0 ++ (List.range 0).map (lenByte len)).map byteV) := by simpa using happ
          have hB3 := hB
          clear hRz happ hB
          go_wp2_with fail
          have H56 := Lib.hid h56
          clear h56
          generalize Value.bool (((n : Int) + 1 + (z : Int)) % 64 != 56) = vb
          go_loopw [5, 6] (fun v t wx => ∃ j : Nat, j ≤ 8 ∧ t = .int .i64 (56 - 8 * (j : Int)) ∧ App wx wc.heap.size 5 v (n + 1 + z + j) ((rs ++ 0x80 :: List.replicate z 0 ++ (List.range j).map (lenByte len)).map byteV) ∧ Below wc.heap.size wc wx) (fun v _ _ => 200 - slLen v)
          case atStart => exact ⟨0, by omega, rfl, hA3, hB3⟩
          case round =>
            obtain ⟨j, hj, rfl, happ, hB⟩ := hrel
            obtain ⟨Az', cz', rfl, hcz', hRz⟩ := happ.rd
            clear hA3 hB3
            by_cases hj8 : j < 8
            · have HB := Lib.hid hB
              have Happ := Lib.hid happ
              have hsz3 := hB.size
              clear hB happ
              have hlb := lenByte_val len j hj8 hlen
              have Hlb := Lib.hid hlb
              clear hlb
              go_wp2_with (at_builtin; refine wpList_app rfl (.tmp 33) (.tmp 41) 22 rfl 5 i0 (.int .u8 0) 1 Tryd.underlying22 hi0 hz0 hz1 hz2 rfl wc.heap.size (by simp; omega) _ _ _ rfl (Happ.out.below ((Below.refl wr.heap.size wr).alloc (Nat.le_refl _) _) (Nat.le_refl _)) (some ⟨wr.heap.size, 0, none⟩) 1 1 [.int .u8 ((len : Int) * 8 / 2 ^ (56 - 8 * j) % 256)] rfl ⟨rfl, by omega, fun _ => ⟨_, _, rfl, fun j' u hu => by have := cells_new wr [.int .u8 ((len : Int) * 8 / 2 ^ (56 - 8 * j) % 256)] 5 j' u hu; rwa [Addr.add_mid] at this⟩⟩ (by simp [Value.oneCell']) (by unfold maxLen; omega) (by omega) ?_; intro v1 w2 happ1 hb1)
              refine ⟨⟨j + 1, by omega, by go_num, ?_, (HB.out.alloc hsz3 _).trans hb1⟩, ?_⟩
              · rw [Hlb.out] at happ1
                rw [show rs ++ 0x80 :: List.replicate z 0 ++ (List.range (j + 1)).map (lenByte len) = (rs ++ 0x80 :: List.replicate z 0 ++ (List.range j).map (lenByte len)) ++ [lenByte len j] from by rw [List.range_succ]; simp, List.map_append]
                exact happ1
              · obtain ⟨A3, c3, rfl, _, _⟩ := happ1.rd
                simp only [slLen]
                omega
            · obtain rfl : j = 8 := by omega
              have hlast : rs ++ 0x80 :: List.replicate z 0 ++ (List.range 8).map (lenByte len) = (padded bs).drop (64 * k) := by rw [Hpl.out, hl]
              rw [hlast] at happ hRz
              have hL : n + 1 + z + 8 = 64 ∨ n + 1 + z + 8 = 128 := by have := Hpd.out; have := H56.out; omega
              have hpl2 : (padded bs).length = n + 1 + z + 8 + 64 * k := by
                have := hRz.len1
                rw [List.length_drop] at this
                omega
              obtain ⟨g, hg0, hgA⟩ : ∃ g, wc.heap.size ≤ g ∧ Az' = some ⟨g, 0, none⟩ := by
                rcases happ with ⟨h0, _⟩ | ⟨_, ⟨_, h0⟩ | ⟨g, cap, cur, hv, hb, _⟩⟩
                · omega
                · omega
                · exact ⟨g, hb, by injection hv⟩
              subst hgA
              generalize hLL : n + 1 + z + 8 = L at *
              have hS2 : Blk wr (w.heap.size + 1) 80 (stArr (stRun stInit (padded bs) k)) := HS.out.below hB hsz
              have hO2 : Blk wr w.heap.size 26 (List.replicate 32 (.int .u8 0)).toArray := HO.out.below hB (by omega)
              have hB2 : Below w.heap.size w wr := HBw.out.trans (hB.mono (by omega))
              have hg2 : Globs wr := Hgr.out.below hB
              have hgs := hg2.size
              rw [show (56 - 8 * ((8 : Nat) : Int)) = -8 from rfl]
              clear happ hlast Hcl HS HO HBw Hgr Hpl hB
              obtain ⟨we, hwe⟩ : ∃ we, we = wr := ⟨_, rfl⟩
              subst hwe
              go_wp2_with fail
              go_loopw [5] (fun v wx => ∃ (i m c : Nat) (Aq : Option Addr), m + 64 * i = L ∧ v = .slice Aq m c ∧ m ≤ c ∧ (∃ off, Aq = some ⟨g, off, none⟩) ∧ Rd we 1 Aq m (((padded bs).drop (64 * (k + i))).map byteV) ∧ Blk wx (w.heap.size + 1) 80 (stArr (stRun stInit (padded bs) (k + i))) ∧ KeptIn (fun k => k < we.heap.size ∧ k ≠ w.heap.size + 1) we wx) (fun v _ => slLen v)
              case atStart => exact ⟨0, L, cz', _, by omega, rfl, hcz', ⟨_, rfl⟩, hRz, hS2, KeptIn.refl _ _⟩
              case round =>
                obtain ⟨i, m, c, _, hm, rfl, hmc, ⟨off, rfl⟩, hR, hS, hK⟩ := hrel
                clear hS2 hRz
                by_cases hm0 : 0 < m
                · have hR2 := rest_rd hR (i := 64) (by omega) hmc
                  have hRr : Rd wr 1 (some ⟨g, off, none⟩) m (((padded bs).drop (64 * (k + i))).map byteV) := hR.keptIn hK (fun b o _ e => by
                    cases e
                    obtain ⟨b', off', e', hc⟩ := hR.2.2 hm0
                    cases e'
                    exact ⟨World.block_lt_of_cell? we _ (hc 0 _ (List.getElem?_eq_getElem (by rw [hR.1]; omega))), by omega⟩)
                  have hgr : ∀ j, j < 64 → wr.cell? ⟨1, j, none⟩ = some (.int .u32 ((roundsL.getD j 0).toNat : Int)) := fun j hj => (hK.cell (p := ⟨1, j, none⟩) ⟨by omega, by show 1 ≠ _; omega⟩).trans (hg2.k j hj)
                  have hm64 : 64 ≤ m := by omega
                  have hblk := Block_any (w.heap.size + 1) (stRun stInit (padded bs) (k + i)) _ m c _ wr hS hRr (by omega) (fun b o e => by cases e; omega) hgr (by omega)
                  have hst : stRun stInit (padded bs) (k + (i + 1)) = stBlock (stRun stInit (padded bs) (k + i)) ((padded bs).drop (64 * (k + i))) := rfl
                  have hdr : ((padded bs).drop (64 * (k + i))).drop 64 = (padded bs).drop (64 * (k + (i + 1))) := by rw [List.drop_drop, show 64 * (k + i) + 64 = 64 * (k + (i + 1)) from by omega]
                  have hsw := hK.size
                  rw [hdr] at hR2
                  have Hst := Lib.hid hst
                  have Hblk := Lib.hid hblk
                  have HK := Lib.hid hK
                  have HR2 := Lib.hid hR2
                  have Hpl2 := Lib.hid hpl2
                  clear hst hblk hK hR2 hdr hRr hR hS hgr hpl2
                  go_wp2_with fail
                  refine Hblk.out.mono ?_
                  rintro e w' ⟨rfl, hk2, hb2⟩
                  have Hb2 := Lib.hid hb2
                  have Hk2 := Lib.hid hk2
                  clear hb2 hk2
                  have hfin2 := HR2.out
                  by_cases hc64 : c = 64
                  · rw [if_pos hc64] at hfin2
                    have HR3 := Lib.hid hfin2
                    clear hfin2 HR2
                    go_wp2_with fail
                    exact ⟨⟨i + 1, m - 64, 0, some ⟨g, off, none⟩, by omega, by simp, by omega, ⟨_, rfl⟩, by simpa using HR3.out, by rw [Hst.out]; exact Hb2.out, HK.out.trans (Hk2.out.mono (fun k hk => ⟨by omega, hk.2⟩))⟩, by simp only [slLen]; omega⟩
                  · rw [if_neg hc64] at hfin2
                    have HR3 := Lib.hid hfin2
                    clear hfin2 HR2
                    go_wp2_with fail
                    exact ⟨⟨i + 1, m - 64, c - 64, some ⟨g, off + 64, none⟩, by omega, by simp, by omega, ⟨_, rfl⟩, by simpa using HR3.out, by rw [Hst.out]; exact Hb2.out, HK.out.trans (Hk2.out.mono (fun k hk => ⟨by omega, hk.2⟩))⟩, by simp only [slLen]; omega⟩
                · obtain rfl : m = 0 := by omega
                  have hfin : stRun stInit (padded bs) (k + i) = stRun stInit (padded bs) ((padded bs).length / 64) := by rw [hpl2]; congr 1; omega
                  rw [hfin] at hS
                  have hsha := sha_run bs
                  generalize stRun stInit (padded bs) ((padded bs).length / 64) = st at *
                  have hO3 : Blk wr w.heap.size 26 (List.replicate 32 (.int .u8 0)).toArray := hO2.keptIn hK ⟨by have := hB2.size; have := hO2.lt; omega, by omega⟩
                  have hB3 : Below w.heap.size w wr := hB2.trans (hK.below (fun k hk => ⟨by have := hO2.lt; omega, by omega⟩))
                  have hbg := stBytes_get st
                  have Hsha := Lib.hid hsha
                  have Hbg := Lib.hid hbg
                  clear hsha hbg hR hfin hpl2 hO2 hB2 hg2 hK
                  obtain ⟨wf, hwf⟩ : ∃ wf, wf = wr := ⟨_, rfl⟩
                  subst hwf
                  have hcell : ∀ q, q < 8 → wf.cell? ⟨w.heap.size + 1, q, none⟩ = some (.int .u32 (((stList st).getD q 0).toNat : Int)) := fun q hq => by
                    rw [hS.cell q]
                    have : q = 0 ∨ q = 1 ∨ q = 2 ∨ q = 3 ∨ q = 4 ∨ q = 5 ∨ q = 6 ∨ q = 7 := by omega
                    rcases this with rfl | rfl | rfl | rfl | rfl | rfl | rfl | rfl <;> rfl
                  have Hcell := Lib.hid hcell
                  have HB3 := Lib.hid hB3
                  have HO3 := Lib.hid hO3
                  have hBs := hS.lt
                  have hO3lt := hO3.lt
                  clear hcell hB3 hO3 hS
                  go_wp2_with fail
                  have hN : Blk (wf.alloc (.cells (((stBytes st).take 0 ++ List.replicate (32 - 0) 0).map byteV).toArray 26)) wf.heap.size 26 (((stBytes st).take 0 ++ List.replicate (32 - 0) 0).map byteV).toArray := Blk.new _ _ _
                  go_loopw [8, 50] (fun _ t wx => ∃ i : Nat, i ≤ 32 ∧ t = .int .i64 i ∧ Blk wx wf.heap.size 26 (((stBytes st).take i ++ List.replicate (32 - i) 0).map byteV).toArray ∧ Below wf.heap.size wf wx) (fun _ t _ => 32 - (intOf t).toNat)
                  case atStart => exact ⟨0, by omega, rfl, hN, (Below.refl _ _).alloc (Nat.le_refl _) _⟩
                  case round =>
                    obtain ⟨i, hi, rfl, hN1, hB⟩ := hrel
                    clear hN
                    by_cases hi32 : i < 32
                    · have hc := (hB.cell (p := ⟨w.heap.size + 1, i / 4, none⟩) hBs).trans (Hcell.out (i / 4) (by omega))
                      have hbi := Hbg.out i hi32
                      generalize (stList st).getD (i / 4) 0 = x at *
                      have o1 : wr.cell? ⟨wf.heap.size, i, none⟩ = some (.int .u8 0) := by
                        rw [hN1.cell i, List.getElem?_toArray, List.getElem?_map, List.getElem?_append_right (by simp [stBytes_length]; omega), List.getElem?_replicate, if_pos (by simp [stBytes_length]; omega)]
                        rfl
                      have o2 := hN1.frozen i
                      have HN := Lib.hid hN1
                      have HB := Lib.hid hB
                      have Hbi := Lib.hid hbi
                      clear hN1 hB hbi
                      go_wp2_with fail
                      rw [show ((x.toNat : Int) / 2 ^ (24 - 8 * (i % 4)) % 256) = ((UInt8.ofNat (x.toNat / 2 ^ (24 - 8 * (i % 4)))).toNat : Int) from by rw [UInt8.toNat_ofNat']; simp]
                      refine ⟨⟨i + 1, by omega, by go_num, ?_, HB.out.setCell (Nat.le_refl _) _⟩, by simp [intOf]; omega⟩
                      refine (heap_setCell_same wr _ i _ 26 _ HN.out).trans ?_
                      congr 2
                      rw [List.setIfInBounds_toArray]
                      congr 1
                      exact set_next _ i _ stBytes_length' Hbi.out
                    · obtain rfl : i = 32 := by omega
                      have hO4 := HO3.out.below hB hO3lt
                      have hB4 := HB3.out.trans (hB.mono (by omega))
                      rw [List.take_of_length_le (by rw [stBytes_length]; omega), Nat.sub_self, List.replicate_zero, List.append_nil, ← Hsha.out] at hN1
                      have hsl := sha_length bs
                      have HN := Lib.hid hN1
                      have HO4 := Lib.hid hO4
                      have HB4 := Lib.hid hB4
                      clear hN1 hB hO4 hB4
                      go_wp2_with (first | (refine wpList_load_row rfl 26 (.tmp 7) rfl _ rfl 26 _ (0, 0) _ HN.out und32 rfl (size32 _ (by simp [hsl])) ?_) | (refine wpList_store_row rfl 26 (.tmp 2) (.tmp 66) rfl _ _ rfl rfl 26 _ HO4.out (size32 _ (by simp [hsl])) (by simp [hsl]) (all_oneCell_toArray (oneB _)) ?_))
                      refine bodyPost_ret (results_cell_row rfl _ _ w.heap.size 26 _ (0, 0) _ rfl (setRow_heap _ _ _ _ _ _ HO4.out) und32 rfl (size32 _ (by simp [hsl]))) rfl ⟨rfl, Below.setRow HB4.out (Nat.le_refl _) _⟩
        · have HB := Lib.hid hB
          have Happ := Lib.hid happ
          have hsz3 := hB.size
          clear hB happ hRz
          go_wp2_with (at_builtin; refine wpList_app rfl (.tmp 26) (.tmp 27) 22 rfl 5 i0 (.int .u8 0) 1 Tryd.underlying22 hi0 hz0 hz1 hz2 rfl wc.heap.size (by simp; omega) _ _ _ rfl (Happ.out.below ((Below.refl wr.heap.size wr).alloc (Nat.le_refl _) _) (Nat.le_refl _)) (some ⟨wr.heap.size, 0, none⟩) 1 1 [.int .u8 0] rfl ⟨rfl, by omega, fun _ => ⟨_, _, rfl, fun j u hu => by have := cells_new wr [.int .u8 0] 5 j u hu; rwa [Addr.add_mid] at this⟩⟩ (by simp [Value.oneCell']) (by unfold maxLen; omega) (by omega) ?_; intro v1 w2 happ1 hb1)
          refine ⟨⟨z + 1, by have := Hpd.out; omega, ?_, (HB.out.alloc hsz3 _).trans hb1⟩, ?_⟩
          · have e : rs ++ 0x80 :: List.replicate (z + 1) 0 = (rs ++ 0x80 :: List.replicate z 0) ++ [0] := by rw [List.replicate_succ']; simp
            rw [e, List.map_append]
            exact happ1
          · obtain ⟨A3, c3, rfl, _, _⟩ := happ1.rd
            simp only [slLen]
            have := Hpd.out
            omega
end

section
open Go.RowKit

theorem own_lit (w : World) (e : TypeId) (v : Value) : (w.alloc (.cells #[v] e)).ownsRow w.heap.size e 1 (.slice (some ⟨w.heap.size, 0, none⟩) 1 1) 1 [v] :=
  ⟨rfl, .inr ⟨_, 1, #[v], rfl, Nat.le_refl _, heap_alloc_new _ _, Nat.le_refl _, by unfold maxLen; omega, rfl, rfl⟩⟩
def zero32 : Array Value := (List.replicate 32 (Value.int .u8 0)).toArray
theorem zero32_size : zero32.size = 32 := rfl
theorem Blk.rd {W : World} {B : Nat} {t : TypeId} {xs : List Value} (h : Blk W B t xs.toArray) (hl : xs.length ≤ 9223372036854775807) : Rd W 1 (some ⟨B, 0, none⟩) xs.length xs :=
  ⟨by simp, hl, fun _ => ⟨B, 0, rfl, fun j u hu => by rw [h.cell, Nat.zero_add]; simpa using hu⟩⟩
def leaf (b : List UInt8) : List UInt8 := sha (0 :: b)
def pair (a b : List UInt8) : List UInt8 := sha (1 :: a ++ b)
theorem leaf_length (b : List UInt8) : (leaf b).length = 32 := sha_length _
theorem pair_length (a b : List UInt8) : (pair a b).length = 32 := sha_length _
theorem sumV_size {h : List UInt8} (hl : h.length = 32) : ((h.map byteV).toArray).size = 32 := by simp [hl]

set_option maxRecDepth 100000 in
set_option maxHeartbeats 1000000 in
theorem Leaf_any (A : Option Addr) (len cap : Nat) (bs : List UInt8) (w : World) (hg : Globs w) (hr : Rd w 1 A len (bs.map byteV)) (hlen : len ≤ 8796093022000) :
    Calls Tryd.prog 48 #[.slice A len cap] w fun e w' => e = .returned (sumV (leaf bs)) ∧ Below w.heap.size w w' := by
  obtain ⟨i0, hi0, hz0, hz1, hz2⟩ := info_parts info5
  have hl := hr.len1
  have h1 := oneB bs
  have hlf := leaf_length bs
  go_enter Tryd.func48, Tryd.ntmps48
  go_upto_region 1 with fail
  obtain ⟨w1, hw1⟩ : ∃ w1, w1 = w.alloc (.cells zero32 26) := ⟨_, rfl⟩
  have hB1 : Below w.heap.size w w1 := by rw [hw1]; exact (Below.refl _ _).alloc (Nat.le_refl _) _
  have hs1 : w1.heap.size = w.heap.size + 1 := by rw [hw1]; simp
  have hO1 : Blk w1 w.heap.size 26 zero32 := by rw [hw1]; exact Blk.new _ _ _
  simp only [zero32, List.replicate_succ, List.replicate_zero] at hw1
  rw [← hw1]
  have hr1 := hr.below hB1
  have hg1 := hg.below hB1
  have HB1 := Lib.hid hB1
  have HO1 := Lib.hid hO1
  have Hg1 := Lib.hid hg1
  have Hs1 := Lib.hid hs1
  clear hw1 hg hr hB1 hO1 hg1 hs1
  go_wp2_with (at_builtin; refine wpList_app rfl (.tmp 3) (.tmp 4) 22 rfl 5 i0 (.int .u8 0) 1 Tryd.underlying22 hi0 hz0 hz1 hz2 rfl w1.heap.size (by simp) _ 1 _ rfl (.inr (own_lit w1 5 (.int .u8 0))) A len cap (bs.map byteV) rfl (hr1.alloc _) h1 (by unfold maxLen; omega) (by omega) ?_; intro v' w2 happ hb1; obtain ⟨A1, c1, rfl, hc1, hrd1⟩ := happ.rd)
  have hB2 : Below w1.heap.size w1 w2 := ((Below.refl _ _).alloc (Nat.le_refl _) _).trans hb1
  refine (Sum_any A1 (1 + len) c1 (0 :: bs) w2 (Hg1.out.below hB2) hrd1 (by omega) hc1).mono ?_
  rintro e w3 ⟨rfl, hb3⟩
  have hB3 : Below w1.heap.size w1 w3 := hB2.trans (hb3.mono hB2.size)
  have hO3 : Blk w3 w.heap.size 26 zero32 := HO1.out.below hB3 (by have := Hs1.out; omega)
  have hB0 : Below w.heap.size w w3 := HB1.out.trans (hB3.mono (by have := Hs1.out; omega))
  have HO3 := Lib.hid hO3
  have HB0 := Lib.hid hB0
  clear hO3 hB0 hB3 hb3 hb1 happ hrd1 hB2
  go_wp2_with (refine wpList_store_row rfl 26 (.tmp 2) (.tmp 6) rfl _ _ rfl rfl 26 _ HO3.out (size32 _ (sumV_size hlf)) ((zero32_size).trans (sumV_size hlf).symm) (all_oneCell_toArray (oneB _)) ?_)
  refine bodyPost_ret (results_cell_row rfl _ _ w.heap.size 26 _ (0, 0) _ rfl (setRow_heap _ _ _ _ _ _ HO3.out) und32 rfl (size32 _ (sumV_size hlf))) rfl ⟨rfl, Below.setRow HB0.out (Nat.le_refl _) _⟩

set_option maxRecDepth 100000 in
set_option maxHeartbeats 1000000 in
theorem Pair_any (x y : List UInt8) (hx : x.length = 32) (hy : y.length = 32) (w : World) (hg : Globs w) :
    Calls Tryd.prog 49 #[sumV x, sumV y] w fun e w' => e = .returned (sumV (pair x y)) ∧ Below w.heap.size w w' := by
  obtain ⟨i0, hi0, hz0, hz1, hz2⟩ := info_parts info5
  have hlf := pair_length x y
  go_enter Tryd.func49, Tryd.ntmps49
  unfold sumV
  go_upto_region 1 with fail
  obtain ⟨w1, hw1⟩ : ∃ w1, w1 = ((w.alloc (.cells (x.map byteV).toArray 26)).alloc (.cells (y.map byteV).toArray 26)).alloc (.cells zero32 26) := ⟨_, rfl⟩
  have hB1 : Below w.heap.size w w1 := by rw [hw1]; exact (((Below.refl _ _).alloc (Nat.le_refl _) _).alloc (by simp) _).alloc (by simp; omega) _
  have hs1 : w1.heap.size = w.heap.size + 3 := by rw [hw1]; simp
  have hX1 : Blk w1 w.heap.size 26 (x.map byteV).toArray := by rw [hw1]; exact ((Blk.new _ _ _).alloc _).alloc _
  have hY1 : Blk w1 (w.heap.size + 1) 26 (y.map byteV).toArray := by
    rw [hw1]
    have := (Blk.new (w.alloc (.cells (x.map byteV).toArray 26)) 26 (y.map byteV).toArray).alloc (.cells zero32 26)
    rwa [World.size_alloc] at this
  have hO1 : Blk w1 (w.heap.size + 1 + 1) 26 zero32 := by
    rw [hw1]
    have := Blk.new ((w.alloc (.cells (x.map byteV).toArray 26)).alloc (.cells (y.map byteV).toArray 26)) 26 zero32
    rwa [World.size_alloc, World.size_alloc] at this
  simp only [zero32, List.replicate_succ, List.replicate_zero] at hw1
  rw [← hw1]
  have hxr := hX1.rd (by simp [hx])
  have hyr := hY1.rd (by simp [hy])
  rw [List.length_map, hx] at hxr
  rw [List.length_map, hy] at hyr
  have hg1 := hg.below hB1
  have HB1 := Lib.hid hB1
  have HO1 := Lib.hid hO1
  have Hg1 := Lib.hid hg1
  have Hxr := Lib.hid hxr
  have Hyr := Lib.hid hyr
  have Hs1 := Lib.hid hs1
  clear hw1 hg hB1 hO1 hg1 hxr hyr hs1 hX1 hY1
  go_wp2_with (first | (at_builtin; refine wpList_app rfl (.tmp 6) (.tmp 7) 22 rfl 5 i0 (.int .u8 0) 1 Tryd.underlying22 hi0 hz0 hz1 hz2 rfl w1.heap.size (by simp) _ 1 _ rfl (.inr (own_lit w1 5 (.int .u8 1))) (some ⟨w.heap.size, 0, none⟩) 32 32 (x.map byteV) rfl (Hxr.out.alloc _) (oneB _) (by unfold maxLen; omega) (by omega) ?_; intro v' w2 happ hb1; have hb2 : Below w1.heap.size w1 w2 := ((Below.refl _ _).alloc (Nat.le_refl _) _).trans hb1) | (at_builtin; refine wpList_app rfl (.tmp 9) (.tmp 10) 22 rfl 5 i0 (.int .u8 0) 1 Tryd.underlying22 hi0 hz0 hz1 hz2 rfl w1.heap.size hb2.size _ _ _ rfl happ (some ⟨w.heap.size + 1, 0, none⟩) 32 32 (y.map byteV) rfl (Hyr.out.below hb2) (oneB _) (by unfold maxLen; omega) (by omega) ?_; intro v2 w3 happ2 hb3; obtain ⟨A1, c1, rfl, hc1, hrd1⟩ := happ2.rd))
  have hB2 : Below w1.heap.size w1 w3 := hb2.trans hb3
  refine (Sum_any A1 (1 + 32 + 32) c1 (1 :: x ++ y) w3 (Hg1.out.below hB2) (by simpa [byteV] using hrd1) (by omega) hc1).mono ?_
  rintro e w4 ⟨rfl, hb4⟩
  have hB3 : Below w1.heap.size w1 w4 := hB2.trans (hb4.mono hB2.size)
  have hO3 : Blk w4 (w.heap.size + 1 + 1) 26 zero32 := HO1.out.below hB3 (by have := Hs1.out; omega)
  have hB0 : Below w.heap.size w w4 := HB1.out.trans (hB3.mono (by have := Hs1.out; omega))
  have HO3 := Lib.hid hO3
  have HB0 := Lib.hid hB0
  clear hO3 hB0 hB3 hb3 hb1 hb2 happ happ2 hrd1 hB2 hb4
  go_wp2_with (refine wpList_store_row rfl 26 (.tmp 4) (.tmp 12) rfl _ _ rfl rfl 26 _ HO3.out (size32 _ (sumV_size hlf)) ((zero32_size).trans (sumV_size hlf).symm) (all_oneCell_toArray (oneB _)) ?_)
  refine bodyPost_ret (results_cell_row rfl _ _ (w.heap.size + 1 + 1) 26 _ (0, 0) _ rfl (setRow_heap _ _ _ _ _ _ HO3.out) und32 rfl (size32 _ (sumV_size hlf))) rfl ⟨rfl, Below.setRow HB0.out (by omega) _⟩
end

section
open Go.RowKit

/-- A hash. -/
def Sum32 : Type := {l : List UInt8 // l.length = 32}
def sumC (h : Sum32) : List Value := h.1.map byteV
theorem sumC_len (h : Sum32) : (sumC h).length = 32 := by simp [sumC, h.2]
def leafS (b : List UInt8) : Sum32 := ⟨leaf b, leaf_length b⟩
def pairS (a b : Sum32) : Sum32 := ⟨pair a.1 b.1, pair_length _ _⟩
/-- A slice's parts: address, length, capacity. -/
structure Sl where
  a : Option Addr
  n : Nat
  c : Nat
def slV (s : Sl) : Value := .slice s.a s.n s.c
/-- A slice of slices of bytes. -/
def Lst (w : World) (A : Option Addr) (n : Nat) (cs : List (List UInt8)) : Prop :=
  ∃ vs : List Sl, Rd w 1 A n (vs.map slV) ∧ cs.length = n ∧ ∀ (k : Nat) (v : Sl) (c : List UInt8), vs[k]? = some v → cs[k]? = some c → Rd w 1 v.a v.n (c.map byteV) ∧ v.n ≤ v.c
theorem Lst.len {w : World} {A : Option Addr} {n : Nat} {cs : List (List UInt8)} (h : Lst w A n cs) : cs.length = n := by obtain ⟨vs, h1, h2, h3⟩ := h; exact h2
theorem Lst.le {w : World} {A : Option Addr} {n : Nat} {cs : List (List UInt8)} (h : Lst w A n cs) : n ≤ 9223372036854775807 := by obtain ⟨vs, h1, h2, h3⟩ := h; exact h1.le
theorem Lst.below {w w' : World} {A : Option Addr} {n : Nat} {cs : List (List UInt8)} (h : Lst w A n cs) (hb : Below w.heap.size w w') : Lst w' A n cs := by
  obtain ⟨vs, h1, h2, h3⟩ := h
  exact ⟨vs, h1.below hb, h2, fun k v c hv hc => ⟨((h3 k v c hv hc).1).below hb, (h3 k v c hv hc).2⟩⟩
theorem Lst.at_ {w : World} {A : Option Addr} {n k : Nat} {cs : List (List UInt8)} (h : Lst w A n cs) (hk : k < n) :
    ∃ (b off : Nat) (v : Sl) (c : List UInt8), A = some ⟨b, off, none⟩ ∧ cs[k]? = some c ∧ w.cell? ⟨b, off + k, none⟩ = some (.slice v.a v.n v.c) ∧ Rd w 1 v.a v.n (c.map byteV) ∧ v.n ≤ v.c := by
  obtain ⟨vs, h1, h2, h3⟩ := h
  obtain ⟨b, off, v, e, hv, hc⟩ := h1.at_ hk
  have hk' : k < cs.length := by omega
  have := h3 k v cs[k] hv (List.getElem?_eq_getElem hk')
  exact ⟨b, off, v, cs[k], e, List.getElem?_eq_getElem hk', hc, this.1, this.2⟩

/-- A slice of one element of several cells, known as a list. -/
theorem wpList_build1 {P : Program} {ops : Array Oper} {rest : List Oper} {o : Oper} {a : Act} {w : World} {Q : Exit → Act → World → Prop} (hg : o.guard = none) (t e : TypeId) (x : Operand) (ho : o.op = .buildSlice t 1 #[(0, x)])
    (cells : Array Value) (ie : TypeInfo) (z : Value) (s : Nat) (hu : P.underlying t = some (.slice e)) (hie : P.info? e = some ie) (hz : ie.zero = some z) (hs : ie.size = s) (hpos : 0 < s) (hsm : s ≤ 2 ^ 24)
    (hx : a.eval x = .agg cells) (hc : cells.size = s)
    (h : wpList P ops Q rest (a.put o.dst (.slice (some ⟨w.heap.size, 0, none⟩) 1 1)) (w.alloc (.cells cells e))) : wpList P ops Q (o :: rest) a w := by
  subst hs
  refine wpList_buildSlice hg t e 1 _ ho cells ie z hu hie hz (by omega) (by omega) ?_ h
  have := Great.fill_whole hpos [.agg cells] ((Array.range (1 * ie.size)).map (z.cells[· % z.cells.size]!)) (by simp [Value.cells, hc]) (by simp)
  simpa [hx, Value.cells] using this

theorem ownsRow_cap {w : World} {base : Nat} {e : TypeId} {sz n c : Nat} {A : Option Addr} {xs : List Value} (h : w.ownsRow base e sz (.slice A n c) n xs) : n ≤ c := by
  rcases h.2 with ⟨hv, rfl⟩ | ⟨g, cap, cur, hv, hb, hg, hnc, hcm, _⟩
  · exact Nat.zero_le _
  · injection hv with h1 h2 h3
    omega

theorem info32 : (Tryd.prog.info? 26).map (fun i => (i.zero, i.size, i.bytes)) = some (some (.agg zero32), 32, 32) := by kernel_rfl

set_option maxRecDepth 100000 in
set_option maxHeartbeats 1000000 in
theorem Leaves_any (A : Option Addr) (len cap : Nat) (cs : List (List UInt8)) (w : World) (hg : Globs w) (hr : Lst w A len cs) (hlen : len ≤ 1000000) (hcs : ∀ c ∈ cs, c.length ≤ 8796093022000) :
    Calls Tryd.prog 51 #[.slice A len cap] w fun e w' => ∃ A' c', e = .returned (.slice A' len c') ∧ len ≤ c' ∧ Rd w' 32 A' len ((cs.map leafS).flatMap sumC) ∧ Below w.heap.size w w' ∧ ∀ b off, A' = some ⟨b, off, none⟩ → w.heap.size ≤ b := by
  obtain ⟨i0, hi0, hz0, hz1, hz2⟩ := info_parts info32
  have hle := hr.le
  have hl := hr.len
  subst hl
  have hown := World.ownsRow_nil w w.heap.size 26 32
  go_enter Tryd.func51, Tryd.ntmps51
  go_wp2
  go_loopw [3, 5, 8] (fun v _ i wr => ∃ k : Nat, k ≤ cs.length ∧ i = .int .i64 k ∧ wr.ownsRow w.heap.size 26 32 v k (((cs.take k).map leafS).flatMap sumC) ∧ Below w.heap.size w wr) (fun _ _ i _ => cs.length - (intOf i).toNat)
  case atStart => exact ⟨0, by omega, rfl, by simpa using hown, Below.refl _ _⟩
  case round =>
    obtain ⟨k, hk, rfl, hrow, hB⟩ := hrel
    have hsz := hB.size
    by_cases hlt : k < cs.length
    · obtain ⟨b, off, v, c, rfl, hx, c1, hrd, hvc⟩ := (hr.below hB).at_ hlt
      have hcl := hcs c (List.mem_of_getElem? hx)
      have hvn := hrd.len1
      have hleaf := Leaf_any v.a v.n v.c c wr (hg.below hB) hrd (by omega)
      have htk : cs.take (k + 1) = cs.take k ++ [c] := by rw [List.take_add_one, hx]; rfl
      have hlf := leaf_length c
      have Ht := Lib.hid htk
      have Hrow := Lib.hid hrow
      have HB := Lib.hid hB
      have Hleaf := Lib.hid hleaf
      clear htk hx hr hg hrow hB hleaf hrd hcs hown
      go_wp2_with fail
      refine Hleaf.out.mono ?_
      rintro e w1 ⟨rfl, hb1⟩
      have hrow1 : ∀ o, (w1.alloc o).ownsRow w.heap.size 26 32 u3 k (((cs.take k).map leafS).flatMap sumC) := fun o => (Hrow.out.kept (⟨hb1.os, hb1.tape, hb1.output, hb1.size, fun k hk _ => hb1.block k hk⟩ : wr.grownBy w1 none) (by cases u3.ownBlock <;> simp)).alloc o
      have Hrow1 := Lib.hid hrow1
      have hs1 := hb1.size
      have HB1 := Lib.hid (HB.out.trans (hb1.mono hsz))
      clear hrow1 hb1 Hrow HB
      unfold sumV
      have hlc := sumV_size hlf
      have hll : ((leaf c).map byteV).length = 1 * 32 := by simp [hlf]
      generalize hhs : leaf c = hs at *
      have Hhs := Lib.hid hhs
      clear hhs
      go_wp2_with (first | (refine wpList_build1 rfl 35 26 (.tmp 14) rfl _ i0 _ 32 Tryd.underlying35 hi0 hz0 hz1 (by omega) (by omega) rfl hlc ?_) | (at_builtin; refine wpList_append_own _ rfl (.tmp 12) (.tmp 15) 35 rfl w.heap.size 26 i0 (.agg zero32) 32 32 Tryd.underlying35 hi0 hz0 hz1 hz2 rfl (by decide) _ k _ rfl (Hrow1.out _) ⟨w1.heap.size, 0, none⟩ 1 1 (hs.map byteV) rfl hll (cells_new _ _ _) (oneB _) (by unfold maxLen; omega) (by omega) (by simp; omega) ?_; intro v' w2 hown' hgrow _))
      have hB3 : Below w.heap.size w w2 := (HB1.out.alloc (by omega) _).grown hgrow (by simp; omega) (fun k' e' => ((Hrow1.out (.cells (hs.map byteV).toArray 26)).lt k' e').1)
      exact ⟨⟨k + 1, by omega, by go_num, by rw [Ht.out, List.map_append, List.flatMap_append, List.map_cons, List.map_nil, show [leafS c].flatMap sumC = hs.map byteV from by rw [← Hhs.out]; simp only [List.flatMap_cons, List.flatMap_nil, List.append_nil]; rfl]; exact hown', hB3⟩, by simp [intOf]; omega⟩
    · go_wp2
      go_ret
      obtain rfl : k = cs.length := by omega
      obtain ⟨A2, c2, rfl⟩ := ownsRow_slice hrow
      have hcc := ownsRow_cap hrow
      rw [List.take_length] at hrow
      exact ⟨A2, c2, rfl, hcc, Rd.of_own hrow, hB, fun b off e => (hrow.lt b (by rw [e]; rfl)).1⟩
end

section
open Go.RowKit Go.Shelf

attribute [local go_sem] Oper.semAt_some

/-- A piece of two places, or of one at the end. -/
abbrev Pc (len : Nat) := { k : Nat // 2 * k < len }
def pcN (len k : Nat) : Nat := min 2 (len - 2 * k)
def pcV (b off len : Nat) (x : Pc len) : Value := .slice (some ⟨b, off + 2 * x.1 * 32, none⟩) (pcN len x.1) (pcN len x.1)

theorem size32' : Tryd.prog.cellsOf 26 = 32 := by kernel_rfl
theorem elem27 : Tryd.prog.elem 35 = 26 := by kernel_rfl
theorem und27 : Tryd.prog.underlying 35 = some (.slice (Tryd.prog.elem 35)) := by rw [elem27]; exact Tryd.underlying35
theorem run_slice_sums (b off len cap i : Nat) (hi : i < len) (hc : len ≤ cap) (w : World) :
    (Instr.slice 35 (.slice (some ⟨b, off, none⟩) len cap) (some (.int .i64 (i : Int))) none none).run Tryd.prog w = .ok (.slice (some ⟨b, off + i * 32, none⟩) (len - i) (cap - i)) w := by
  obtain ⟨iE, hi'⟩ : ∃ i, Tryd.prog.info? 26 = some i := by
    have := size32'
    unfold Program.cellsOf at this
    cases h : Tryd.prog.info? 26 with
    | none => simp [h] at this
    | some i => exact ⟨i, rfl⟩
  rw [run_slice_l (P := Tryd.prog) w 35 _ len cap und27 .i64 (i : Int) (by omega) (by omega), elem27, run_sizeOf w hi', size32']
  simp only [Result.andThen_ok, sliced, Int.toNat_natCast, Option.map_some]
  rw [if_neg (by omega)]
  have hadd : (⟨b, off, none⟩ : Addr).add (i * 32) = ⟨b, off + i * 32, none⟩ := by unfold Addr.add; split <;> simp_all
  rw [hadd]
theorem run_slice_piece (b off len cap i j : Nat) (hij : i < j) (hj : j ≤ cap) (w : World) :
    (Instr.slice 35 (.slice (some ⟨b, off, none⟩) len cap) (some (.int .i64 (i : Int))) (some (.int .i64 (j : Int))) (some (.int .i64 (j : Int)))).run Tryd.prog w = .ok (.slice (some ⟨b, off + i * 32, none⟩) (j - i) (j - i)) w := by
  obtain ⟨iE, hi'⟩ : ∃ i, Tryd.prog.info? 26 = some i := by
    have := size32'
    unfold Program.cellsOf at this
    cases h : Tryd.prog.info? 26 with
    | none => simp [h] at this
    | some i => exact ⟨i, rfl⟩
  rw [run_slice_lhm (P := Tryd.prog) w 35 _ len cap und27 .i64 .i64 .i64 (i : Int) (j : Int) (j : Int) (by omega) (by omega) (by omega) (by omega), elem27, run_sizeOf w hi', size32']
  simp only [Result.andThen_ok, sliced, Int.toNat_natCast, Option.map_some]
  rw [if_neg (by omega)]
  have hadd : (⟨b, off, none⟩ : Addr).add (i * 32) = ⟨b, off + i * 32, none⟩ := by unfold Addr.add; split <;> simp_all
  rw [hadd]

set_option maxRecDepth 100000 in
set_option maxHeartbeats 1000000 in
theorem chunk1_in (n : Nat) (hn : 1 ≤ n) (l B1 B2 : Nat) (S : Nat → Prop) (b off len cap : Nat) (hlen : len ≤ 1000000) (hcap : len ≤ cap) (J Jx : List (Pc len) → World → Prop) (hDr : ∀ s W m, J s W → J s (W.drewN m))
    (hY : ∀ pre x W, J pre W → pre.length < len → YieldAt Fence.wide (n - 1) Tryd.prog l #[pcV b off len x] W fun e W' =>
      (e = .returned (.bool true) ∧ J (pre ++ [x]) W' ∧ KeptIn S W W') ∨ (e = .returned (.bool false) ∧ Jx (pre ++ [x]) W'))
    (W : World) (hB1 : W.cell? ⟨B1, 0, none⟩ = some (.slice (some ⟨b, off, none⟩) len cap)) (hB2 : W.cell? ⟨B2, 0, none⟩ = some (.int .i64 2))
    (l1 : S B1) (l2 : S B2) (h0 : J [] W) :
    CallsIn Fence.wide n Tryd.prog 69 #[.func (.yield l) #[] #[], .pointer (some ⟨B1, 0, none⟩), .pointer (some ⟨B2, 0, none⟩)] W fun e W' => (∃ v, e = .returned v) ∧
      ((∃ ys : List (Pc len), ys.map (·.1) = List.range ((len + 1) / 2) ∧ J ys W') ∨ (∃ pre, True ∧ Jx pre W')) := by
  refine callsIn_of_wp Tryd.func69 rfl trivial ?_ rfl
  simp only [Tryd.ntmps69, List.size_toArray, List.length_cons, List.length_nil, Nat.reduceAdd, Nat.reduceSub, Array.replicate_succ, Array.replicate_zero, List.push_toArray, List.append_toArray, List.nil_append, List.cons_append]
  gi_wp2
  gi_loopw [4, 5] (fun i _ wr => ∃ (k : Nat) (pre : List (Pc len)), 2 * k ≤ len + 1 ∧ i = .int .i64 (((2 * k : Nat)) : Int) ∧ pre.map (·.1) = List.range k ∧ J pre wr ∧ KeptIn S W wr) (fun i _ _ => len + 2 - (intOf i).toNat)
  case atStart => exact ⟨0, [], by omega, rfl, rfl, h0, KeptIn.refl _ _⟩
  case round =>
    obtain ⟨k, pre, hk, rfl, hpre, hJs, hnx⟩ := hrel
    have c1 : wr.cell? ⟨B1, 0, none⟩ = some (.slice (some ⟨b, off, none⟩) len cap) := (hnx.cell (p := ⟨B1, 0, none⟩) l1).trans hB1
    have c2 : wr.cell? ⟨B2, 0, none⟩ = some (.int .i64 2) := (hnx.cell (p := ⟨B2, 0, none⟩) l2).trans hB2
    have hpl : pre.length = k := by have := congrArg List.length hpre; simpa using this
    clear hB1 hB2
    by_cases hlt : 2 * k < len
    · have hs1 := run_slice_sums b off len cap (2 * k) hlt hcap
      gi_wp2
      refine wpIn_wide.2 ?_
      go_quiet (fail)
      have hp : (if ((len - 2 * k : Nat) : Int) < 2 then ((len - 2 * k : Nat) : Int) else 2) = ((pcN len k : Nat) : Int) := by unfold pcN; split <;> omega
      have hp1 : 1 ≤ pcN len k := by unfold pcN; omega
      have hp2 : 2 * k + pcN len k ≤ len := by unfold pcN; omega
      rw [hp]
      obtain ⟨fn, tmps, assign, body, hy, hR⟩ := hY pre ⟨k, hlt⟩ (wr.drewN nq) (hDr _ _ _ hJs) (by omega)
      unfold pcV at hy
      dsimp only at hy
      have c1' : (wr.drewN nq).cell? ⟨B1, 0, none⟩ = some (.slice (some ⟨b, off, none⟩) len cap) := c1
      have c2' : (wr.drewN nq).cell? ⟨B2, 0, none⟩ = some (.int .i64 2) := c2
      clear hs1 hp c1 c2
      generalize pcN len k = pq at *
      gi_wp2
      refine hR.mono ?_
      rintro e W3 (⟨rfl, hJ3, hk3⟩ | ⟨rfl, hJx3⟩)
      · have hk4 : KeptIn S wr W3 := KeptIn.trans (⟨rfl, rfl, rfl, Nat.le_refl _, fun _ _ => rfl⟩ : KeptIn S wr (wr.drewN nq)) hk3
        have c3 : W3.cell? ⟨B2, 0, none⟩ = some (.int .i64 2) := (hk3.cell (p := ⟨B2, 0, none⟩) l2).trans c2'
        clear c1' c2'
        gi_wp2
        exact ⟨⟨k + 1, pre ++ [⟨k, hlt⟩], by omega, by go_num, by rw [List.map_append, hpre, List.range_succ]; rfl, hJ3, hnx.trans hk4⟩, by simp [intOf]; omega⟩
      · gi_wp2
        refine bodyPost_ret (results_none rfl _ _ _) rfl ?_
        exact ⟨⟨_, rfl⟩, .inr ⟨_, trivial, hJx3⟩⟩
    · obtain rfl : k = (len + 1) / 2 := by omega
      gi_wp2
      go_end0
      exact ⟨⟨_, rfl⟩, .inl ⟨pre, hpre, hJs⟩⟩

theorem grownBy_drewN (W : World) (m : Nat) : W.grownBy (W.drewN m) none := ⟨rfl, rfl, rfl, Nat.le_refl _, fun _ _ _ => rfl⟩
/-- What Chunk hands back yields the pieces. -/
theorem chunk_stops (n : Nat) (hn : 1 ≤ n) (B1 B2 : Nat) (S : Nat → Prop) (b off len cap : Nat) (hlen : len ≤ 1000000) (hcap : len ≤ cap)
    (w : World) (hB1 : w.cell? ⟨B1, 0, none⟩ = some (.slice (some ⟨b, off, none⟩) len cap)) (hB2 : w.cell? ⟨B2, 0, none⟩ = some (.int .i64 2)) (l1 : S B1) (l2 : S B2) :
    SeqStopsK Fence.wide n Tryd.prog 69 #[.pointer (some ⟨B1, 0, none⟩), .pointer (some ⟨B2, 0, none⟩)]
      (fun x : Pc len => #[pcV b off len x]) (KeptIn S) (fun ys => ys.map (·.1) = List.range ((len + 1) / 2)) (fun _ => True) len w :=
  fun l J Jx W hW hA _ hY h0 =>
    chunk1_in n hn l B1 B2 S b off len cap hlen hcap J Jx (fun s W m hs => hA s W _ none hs (grownBy_drewN W m) (fun _ e => by cases e)) hY W ((hW.cell (World.block_lt_of_cell? w _ hB1)).trans hB1) ((hW.cell (World.block_lt_of_cell? w _ hB2)).trans hB2)
      l1 l2 h0
end

end Go.Proofs.YtfdhiilhjfbehaaDoor
