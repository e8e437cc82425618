/- SHA-256 block by block: what the plain words answer for the loops. -/
import Derived.Test.YtgblkaoioeceiaaDoorBlock
import Derived.Test.YtgblkaoioeceiaaDoorAppBytes
namespace Go.Proofs.YtgblkaoioeceiaaDoor
open Go.RowKit

theorem words0_congr {b b' : List UInt8} : ∀ t, (∀ j, j < 4 * t → b.getD j 0 = b'.getD j 0) → words0 b t = words0 b' t
  | 0, _ => rfl
  | t + 1, h => by rw [words0, words0, words0_congr t (fun j hj => h j (by omega)), h _ (by omega), h _ (by omega), h _ (by omega), h _ (by omega)]
theorem words_congr {b b' : List UInt8} (h : ∀ j, j < 64 → b.getD j 0 = b'.getD j 0) : ∀ k, words b k = words b' k
  | 0 => words0_congr 16 h
  | k + 1 => by rw [words, words, words_congr h k]
theorem stBlock_congr {b b' : List UInt8} (h : ∀ j, j < 64 → b.getD j 0 = b'.getD j 0) (s : St) : stBlock s b = stBlock s b' := by
  unfold stBlock; rw [words_congr h]
theorem stBlock_take (s : St) (b : List UInt8) : stBlock s (b.take 64) = stBlock s b :=
  stBlock_congr (fun j hj => by rw [List.getD_eq_getElem?_getD, List.getD_eq_getElem?_getD, List.getElem?_take, if_pos hj]) s
def stRun (s : St) (P : List UInt8) : Nat → St
  | 0 => s
  | k + 1 => stBlock (stRun s P k) (P.drop (64 * k))
theorem stRun_succ (s : St) (P : List UInt8) : ∀ n, stRun s P (n + 1) = stRun (stBlock s P) (P.drop 64) n
  | 0 => by simp [stRun]
  | n + 1 => by
    rw [stRun, stRun_succ s P n]
    conv => rhs; rw [stRun]
    rw [List.drop_drop, show 64 + 64 * n = 64 * (n + 1) from by omega]
theorem stBlocks_run : ∀ (n : Nat) (s : St) (P : List UInt8), stBlocks n s P = stRun s P n
  | 0, _, _ => rfl
  | n + 1, s, P => by rw [stRun_succ, stBlocks, stBlocks_run n, stBlock_take]
theorem padded_length (b : List UInt8) : (padded b).length = b.length + 9 + padLen b.length := by
  simp [padded]; omega
theorem padded_blocks (b : List UInt8) : (padded b).length % 64 = 0 := by
  rw [padded_length]; unfold padLen; omega
theorem padded_drop (b : List UInt8) (k : Nat) (h : k ≤ b.length) : (padded b).drop k = b.drop k ++ 0x80 :: List.replicate (padLen b.length) 0 ++ (List.range 8).map (lenByte b.length) := by
  unfold padded
  rw [List.append_assoc, List.append_assoc, List.drop_append_of_le_length h]
theorem stRun_step (b : List UInt8) (k : Nat) (h : 64 * (k + 1) ≤ b.length) : stRun stInit (padded b) (k + 1) = stBlock (stRun stInit (padded b) k) (b.drop (64 * k)) := by
  rw [stRun]
  refine stBlock_congr (fun j hj => ?_) _
  rw [padded_drop b _ (by omega), List.getD_eq_getElem?_getD, List.getD_eq_getElem?_getD, List.append_assoc, List.getElem?_append_left (by rw [List.length_drop]; omega)]
theorem sha_run (b : List UInt8) : sha b = stBytes (stRun stInit (padded b) ((padded b).length / 64)) := by
  unfold sha; rw [stBlocks_run]
theorem stBytes_length (s : St) : (stBytes s).length = 32 := rfl
theorem sha_length (b : List UInt8) : (sha b).length = 32 := stBytes_length _
def stList (s : St) : List UInt32 := [s.a, s.b, s.c, s.d, s.e, s.f, s.g, s.h]
theorem stBytes_get (s : St) (i : Nat) (hi : i < 32) : (stBytes s)[i]? = some (UInt8.ofNat (((stList s).getD (i / 4) 0).toNat / 2 ^ (24 - 8 * (i % 4)))) := by
  have : i = 0 ∨ i = 1 ∨ i = 2 ∨ i = 3 ∨ i = 4 ∨ i = 5 ∨ i = 6 ∨ i = 7 ∨ i = 8 ∨ i = 9 ∨ i = 10 ∨ i = 11 ∨ i = 12 ∨ i = 13 ∨ i = 14 ∨ i = 15 ∨ i = 16 ∨ i = 17 ∨ i = 18 ∨ i = 19 ∨ i = 20 ∨ i = 21 ∨ i = 22 ∨ i = 23 ∨ i = 24 ∨ i = 25 ∨ i = 26 ∨ i = 27 ∨ i = 28 ∨ i = 29 ∨ i = 30 ∨ i = 31 := by omega
  rcases this with rfl | rfl | rfl | rfl | rfl | rfl | rfl | rfl | rfl | rfl | rfl | rfl | rfl | rfl | rfl | rfl | rfl | rfl | rfl | rfl | rfl | rfl | rfl | rfl | rfl | rfl | rfl | rfl | rfl | rfl | rfl | rfl <;> simp [stBytes, stList]

/-- The rest of a slice from place i on, as the walk writes it. -/
theorem rest_rd {len cap i b off : Nat} {xs : List UInt8} {w0 : World} (h : Rd w0 1 (some ⟨b, off, none⟩) len (xs.map byteV)) (hi : i ≤ len) (hc : len ≤ cap) :
    Rd w0 1 (if cap = i then some ⟨b, off, none⟩ else some ⟨b, off + i, none⟩) (len - i) ((xs.drop i).map byteV) := by
  have hl := h.len1
  by_cases hci : cap = i
  · obtain rfl : i = len := by omega
    rw [Nat.sub_self, List.drop_of_length_le (by omega)]
    exact Rd.nil _ _ _
  · rw [if_neg hci]
    refine ⟨by simp; omega, by have := h.le; omega, fun hp => ⟨b, off + i, rfl, fun j u hu => ?_⟩⟩
    rw [List.getElem?_map, List.getElem?_drop] at hu
    rw [Nat.add_assoc]
    obtain ⟨b', off', e, hcell⟩ := h.2.2 (by omega)
    cases e
    exact hcell _ u (by rw [List.getElem?_map]; exact hu)

/-- The two package variables. -/
structure Globs (w : World) : Prop where
  i0 : w.cell? ⟨0, 0, none⟩ = some (.int .u32 1779033703)
  i1 : w.cell? ⟨0, 1, none⟩ = some (.int .u32 3144134277)
  i2 : w.cell? ⟨0, 2, none⟩ = some (.int .u32 1013904242)
  i3 : w.cell? ⟨0, 3, none⟩ = some (.int .u32 2773480762)
  i4 : w.cell? ⟨0, 4, none⟩ = some (.int .u32 1359893119)
  i5 : w.cell? ⟨0, 5, none⟩ = some (.int .u32 2600822924)
  i6 : w.cell? ⟨0, 6, none⟩ = some (.int .u32 528734635)
  i7 : w.cell? ⟨0, 7, none⟩ = some (.int .u32 1541459225)
  k : ∀ j, j < 64 → w.cell? ⟨1, j, none⟩ = some (.int .u32 ((roundsL.getD j 0).toNat : Int))
theorem Globs.keep {w w' : World} (h : Globs w) (hk : ∀ p v, w.cell? p = some v → w'.cell? p = some v) : Globs w' :=
  ⟨hk _ _ h.i0, hk _ _ h.i1, hk _ _ h.i2, hk _ _ h.i3, hk _ _ h.i4, hk _ _ h.i5, hk _ _ h.i6, hk _ _ h.i7, fun j hj => hk _ _ (h.k j hj)⟩
theorem Globs.below {w w' : World} (h : Globs w) (hb : Below w.heap.size w w') : Globs w' := h.keep fun p _ hp => (hb.cell (World.block_lt_of_cell? w p hp)).trans hp
theorem Globs.size {w : World} (h : Globs w) : 1 < w.heap.size := World.block_lt_of_cell? w _ (h.k 0 (by omega))

/-- .. as one step of the walk. -/
theorem wpList_app {P : Program} {ops : Array Oper} {rest : List Oper} {o : Oper} {a : Act} {w : World} {Q : Exit → Act → World → Prop}
    (hg : o.guard = none) (s x : Operand) (t : TypeId) (hop : o.op = Op.call { callee := Callee.builtin Builtin.append, args := #[s, x], argTypes := #[t, t] })
    (e : TypeId) (i : TypeInfo) (z : Value) (bytes : Nat) (ht : P.underlying t = some (.slice e)) (hi : P.info? e = some i) (hz : i.zero = some z) (hs : i.size = 1) (hby : i.bytes = bytes) (hzs : z.cells.size = 1)
    (base : Nat) (hbase : base ≤ w.heap.size) (v : Value) (n : Nat) (xs : List Value) (hv : a.eval s = v) (h : App w base e v n xs) (A : Option Addr) (m c : Nat) (news : List Value) (hx : a.eval x = .slice A m c) (hrd : Rd w 1 A m news) (h1 : ∀ u ∈ news, u.oneCell' = true)
    (h63 : n + m ≤ maxLen) (hbytes : (n + m) * bytes ≤ 140737488355328)
    (hK : ∀ v' w', App w' base e v' (n + m) (xs ++ news) → Below base w w' → wpList P ops Q rest (a.put o.dst v') w') :
    wpList P ops Q (o :: rest) a w := by
  have h2 := step_app (P := P) (ops := ops) (Q := Q) (E := True) (K := wpList P ops Q rest) hg s x t hop e i z bytes ht hi hz hs hby hzs base hbase v n xs hv h A m c news hx hrd h1 h63 hbytes hK
  have hw : Region.wanted o (yielded ops a.tmps) = true := by simp [Region.wanted, hg]
  rw [if_pos hw] at h2
  rw [wpList, if_pos hw]
  exact .inl h2
theorem info5 : (Tryd.prog.info? 5).map (fun i => (i.zero, i.size, i.bytes)) = some (some (.int .u8 0), 1, 1) := by kernel_rfl
theorem oneB (bs : List UInt8) : ∀ u ∈ bs.map byteV, u.oneCell' = true := by
  intro u hu
  obtain ⟨b, _, rfl⟩ := List.mem_map.1 hu
  rfl
set_option maxHeartbeats 1000000 in
/-- slices.Clone of bytes. -/
theorem Clone_any (A : Option Addr) (len cap : Nat) (bs : List UInt8) (w : World) (hr : Rd w 1 A len (bs.map byteV)) (hlen : len ≤ 8796093022208) :
    Calls Tryd.prog 33 #[.slice A len cap] w fun e w' => ∃ v, e = .returned v ∧ App w' w.heap.size 5 v len (bs.map byteV) ∧ Below w.heap.size w w' := by
  obtain ⟨i0, hi0, hz0, hz1, hz2⟩ := info_parts info5
  have hl := hr.len1
  have hE : ∀ W, (binOp .eql 22 (.slice A len cap) (.slice none 0 0)).run Tryd.prog W = .ok (.bool (A.isNone)) W := fun W => Lib.run_eql_slice_nil W 22 5 _ _ _ _ _ Tryd.underlying22
  have h1 := oneB bs
  go_enter Tryd.func33, Tryd.ntmps33
  cases A with
  | none =>
    have h0 : len = 0 := by
      rcases Nat.eq_zero_or_pos len with h | h
      · exact h
      · obtain ⟨b, off, e, _⟩ := hr.2.2 h
        cases e
    subst h0
    obtain rfl : bs = [] := List.eq_nil_of_length_eq_zero hl
    go_wp2_with fail
    go_ret
    exact ⟨_, rfl, .inr (World.ownsRow_nil _ _ _ _), Below.refl _ _⟩
  | some ad =>
    go_wp2_with (at_builtin; refine wpList_app rfl (.tmp 5) (.tmp 6) 22 rfl 5 i0 (.int .u8 0) 1 Tryd.underlying22 hi0 hz0 hz1 hz2 rfl w.heap.size (by simp) _ 0 [] rfl (.inl ⟨rfl, rfl, _, rfl⟩) (some ad) len cap (bs.map byteV) rfl (hr.alloc _) h1 (by unfold maxLen; omega) (by omega) ?_; intro v' w1 happ hb1)
    go_ret
    exact ⟨_, rfl, by simpa using happ, ((Below.refl _ _).alloc (Nat.le_refl _) _).trans hb1⟩
end Go.Proofs.YtgblkaoioeceiaaDoor
