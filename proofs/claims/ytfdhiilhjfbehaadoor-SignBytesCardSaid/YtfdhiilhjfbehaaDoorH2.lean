/- SHA-256 in plain Lean, over words of 32 bits: no program in sight. Words of 32 bits: what the model's arithmetic makes of them. The numbers of the rounds, read as an array: an element at a place. Package hash: block adds a block to a state. -/
import Derived.Test.YtfdhiilhjfbehaaDoorRows
import Derived.WalkKit
import Derived.WalkSpells
import Derived.BigQuiet
import Derived.Deep.Draws
import Derived.Deep.QuietTactic
import Derived.Laws.BitsAllLaws
import Derived.Test.YtfdhiilhjfbehaaDoorH1
import Derived.StillTailTactics
import Derived.BigRegion
import Derived.Deep.CutRange
import Derived.Deep.MidRow
namespace Go.Proofs.YtfdhiilhjfbehaaDoor
section
def ror32 (x : UInt32) (n : Nat) : UInt32 := UInt32.ofNat ((x.toNat / 2 ^ n) ||| (x.toNat * 2 ^ (32 - n) % 4294967296))
def shr32 (x : UInt32) (n : Nat) : UInt32 := UInt32.ofNat (x.toNat / 2 ^ n)
def byte32 (b : UInt8) (n : Nat) : UInt32 := UInt32.ofNat (b.toNat * 2 ^ n)
def not32 (x : UInt32) : UInt32 := UInt32.ofNat (x.toNat ^^^ 4294967295)
/-- The word that four bytes make. -/
def be32 (b0 b1 b2 b3 : UInt8) : UInt32 := ((byte32 b0 24 ||| byte32 b1 16) ||| byte32 b2 8) ||| byte32 b3 0
/-- The words of a block, the first t of them (t ≤ 16). -/
def words0 (b : List UInt8) : Nat → List UInt32
  | 0 => []
  | t + 1 => words0 b t ++ [be32 (b.getD (4 * t) 0) (b.getD (4 * t + 1) 0) (b.getD (4 * t + 2) 0) (b.getD (4 * t + 3) 0)]
def early (x : UInt32) : UInt32 := (ror32 x 7 ^^^ ror32 x 18) ^^^ shr32 x 3
def late (x : UInt32) : UInt32 := (ror32 x 17 ^^^ ror32 x 19) ^^^ shr32 x 10
def nextWord (ws : List UInt32) (t : Nat) : UInt32 := ((ws.getD (t - 16) 0 + early (ws.getD (t - 15) 0)) + ws.getD (t - 7) 0) + late (ws.getD (t - 2) 0)
/-- The words of a block, 16 + k of them. -/
def words (b : List UInt8) : Nat → List UInt32
  | 0 => words0 b 16
  | k + 1 => words b k ++ [nextWord (words b k) (16 + k)]
structure St where
  a : UInt32
  b : UInt32
  c : UInt32
  d : UInt32
  e : UInt32
  f : UInt32
  g : UInt32
  h : UInt32
def stU (s : St) (k w : UInt32) : UInt32 := (((s.h + ((ror32 s.e 6 ^^^ ror32 s.e 11) ^^^ ror32 s.e 25)) + ((s.e &&& s.f) ^^^ (not32 s.e &&& s.g))) + k) + w
def stV (s : St) : UInt32 := ((ror32 s.a 2 ^^^ ror32 s.a 13) ^^^ ror32 s.a 22) + (((s.a &&& s.b) ^^^ (s.a &&& s.c)) ^^^ (s.b &&& s.c))
def stStep (s : St) (k w : UInt32) : St := ⟨stU s k w + stV s, s.a, s.b, s.c, s.d + stU s k w, s.e, s.f, s.g⟩
def roundsL : List UInt32 := [0x428a2f98, 0x71374491, 0xb5c0fbcf, 0xe9b5dba5, 0x3956c25b, 0x59f111f1, 0x923f82a4, 0xab1c5ed5,
  0xd807aa98, 0x12835b01, 0x243185be, 0x550c7dc3, 0x72be5d74, 0x80deb1fe, 0x9bdc06a7, 0xc19bf174,
  0xe49b69c1, 0xefbe4786, 0x0fc19dc6, 0x240ca1cc, 0x2de92c6f, 0x4a7484aa, 0x5cb0a9dc, 0x76f988da,
  0x983e5152, 0xa831c66d, 0xb00327c8, 0xbf597fc7, 0xc6e00bf3, 0xd5a79147, 0x06ca6351, 0x14292967,
  0x27b70a85, 0x2e1b2138, 0x4d2c6dfc, 0x53380d13, 0x650a7354, 0x766a0abb, 0x81c2c92e, 0x92722c85,
  0xa2bfe8a1, 0xa81a664b, 0xc24b8b70, 0xc76c51a3, 0xd192e819, 0xd6990624, 0xf40e3585, 0x106aa070,
  0x19a4c116, 0x1e376c08, 0x2748774c, 0x34b0bcb5, 0x391c0cb3, 0x4ed8aa4a, 0x5b9cca4f, 0x682e6ff3,
  0x748f82ee, 0x78a5636f, 0x84c87814, 0x8cc70208, 0x90befffa, 0xa4506ceb, 0xbef9a3f7, 0xc67178f2]
def stInit : St := ⟨0x6a09e667, 0xbb67ae85, 0x3c6ef372, 0xa54ff53a, 0x510e527f, 0x9b05688c, 0x1f83d9ab, 0x5be0cd19⟩
/-- The state after t rounds. -/
def stRounds (ws : List UInt32) (s : St) : Nat → St
  | 0 => s
  | t + 1 => stStep (stRounds ws s t) (roundsL.getD t 0) (ws.getD t 0)
def stAdd (s x : St) : St := ⟨s.a + x.a, s.b + x.b, s.c + x.c, s.d + x.d, s.e + x.e, s.f + x.f, s.g + x.g, s.h + x.h⟩
/-- The state after a block. -/
def stBlock (s : St) (b : List UInt8) : St := stAdd s (stRounds (words b 48) s 64)
def stBlocks : Nat → St → List UInt8 → St
  | 0, s, _ => s
  | n + 1, s, b => stBlocks n (stBlock s (b.take 64)) (b.drop 64)
/-- What is put behind the bytes. -/
def padLen (n : Nat) : Nat := (119 - n % 64) % 64
def lenByte (n k : Nat) : UInt8 := UInt8.ofNat (n * 8 % 18446744073709551616 / 2 ^ (8 * (7 - k)))
def padded (b : List UInt8) : List UInt8 := b ++ 0x80 :: List.replicate (padLen b.length) 0 ++ (List.range 8).map (lenByte b.length)
def stBytes (s : St) : List UInt8 := [s.a, s.b, s.c, s.d, s.e, s.f, s.g, s.h].flatMap fun x => [UInt8.ofNat (x.toNat / 16777216), UInt8.ofNat (x.toNat / 65536), UInt8.ofNat (x.toNat / 256), UInt8.ofNat x.toNat]
/-- The hash of bytes. -/
def sha (b : List UInt8) : List UInt8 := stBytes (stBlocks ((padded b).length / 64) stInit (padded b))

theorem sha_nil : sha [] = [0xe3, 0xb0, 0xc4, 0x42, 0x98, 0xfc, 0x1c, 0x14, 0x9a, 0xfb, 0xf4, 0xc8, 0x99, 0x6f, 0xb9, 0x24, 0x27, 0xae, 0x41, 0xe4, 0x64, 0x9b, 0x93, 0x4c, 0xa4, 0x95, 0x99, 0x1b, 0x78, 0x52, 0xb8, 0x55] := by decide +kernel
end

section
open Go.RowKit

theorem w_xor (x y : UInt32) : bits .xor .u32 (x.toNat : Int) (y.toNat : Int) = ((x ^^^ y).toNat : Int) := by
  rw [u32_xor_nat _ _ x.toNat_lt y.toNat_lt, UInt32.toNat_xor]
theorem w_and (x y : UInt32) : bits .and .u32 (x.toNat : Int) (y.toNat : Int) = ((x &&& y).toNat : Int) := by
  rw [u32_and_nat _ _ x.toNat_lt y.toNat_lt, UInt32.toNat_and]
theorem w_or (x y : UInt32) : bits .or .u32 (x.toNat : Int) (y.toNat : Int) = ((x ||| y).toNat : Int) := by
  rw [u32_or_nat _ _ x.toNat_lt y.toNat_lt, UInt32.toNat_or]
theorem w_add (x y : UInt32) : ((x.toNat : Int) + (y.toNat : Int)) % 4294967296 = ((x + y).toNat : Int) := by
  rw [UInt32.toNat_add]; omega
theorem w_addw (x y : UInt32) : IntKind.u32.wrap ((x.toNat : Int) + (y.toNat : Int)) = ((x + y).toNat : Int) := by
  rw [IntKind.wrap_u32, w_add]
theorem w_not (x : UInt32) : bits .xor .u32 4294967295 (x.toNat : Int) = ((not32 x).toNat : Int) := by
  have h := u32_xor_nat 4294967295 x.toNat (by omega) x.toNat_lt
  rw [show ((4294967295 : Nat) : Int) = 4294967295 from rfl] at h
  rw [h]
  unfold not32
  rw [UInt32.toNat_ofNat', Nat.mod_eq_of_lt (Nat.xor_lt_two_pow x.toNat_lt (by omega)), Nat.xor_comm]
theorem w_ror (x : UInt32) (n : Nat) (_h0 : 0 < n) : bits .or .u32 ((x.toNat : Int) / 2 ^ n) ((x.toNat : Int) * 2 ^ (32 - n) % 4294967296) = ((ror32 x n).toNat : Int) := by
  have h1 : x.toNat / 2 ^ n < 4294967296 := Nat.lt_of_le_of_lt (Nat.div_le_self _ _) x.toNat_lt
  have h2 : x.toNat * 2 ^ (32 - n) % 4294967296 < 4294967296 := Nat.mod_lt _ (by omega)
  have e1 : (x.toNat : Int) / 2 ^ n = ((x.toNat / 2 ^ n : Nat) : Int) := by simp
  have e2 : (x.toNat : Int) * 2 ^ (32 - n) % 4294967296 = ((x.toNat * 2 ^ (32 - n) % 4294967296 : Nat) : Int) := by simp
  rw [e1, e2, u32_or_nat _ _ h1 h2]
  unfold ror32
  rw [UInt32.toNat_ofNat', Nat.mod_eq_of_lt (Nat.or_lt_two_pow h1 h2)]
theorem w_shr (x : UInt32) (n : Nat) : ((shr32 x n).toNat : Int) = (x.toNat : Int) / 2 ^ n := by
  unfold shr32
  rw [UInt32.toNat_ofNat', Nat.mod_eq_of_lt (Nat.lt_of_le_of_lt (Nat.div_le_self _ _) x.toNat_lt)]
  simp
theorem w_byte (b : UInt8) (n : Nat) (hn : n ≤ 24) : ((byte32 b n).toNat : Int) = (b.toNat : Int) * 2 ^ n := by
  have hb := b.toNat_lt
  have h2 : 2 ^ n ≤ 2 ^ 24 := Nat.pow_le_pow_right (by omega) hn
  have h3 : b.toNat * 2 ^ n ≤ 255 * 2 ^ 24 := Nat.mul_le_mul (by omega) h2
  unfold byte32
  rw [UInt32.toNat_ofNat', Nat.mod_eq_of_lt (by omega)]
  simp

set_option maxHeartbeats 400000 in
theorem Ror_any (x : UInt32) (n : Nat) (h0 : 0 < n) (hn : n < 32) (w : World) :
    Calls Tryd.prog 61 #[.int .u32 (x.toNat : Int), .int .i64 (n : Int)] w fun e w' => e = .returned (.int .u32 ((ror32 x n).toNat : Int)) ∧ ∃ k, w' = w.drewN k := by
  have hx := x.toNat_lt
  have hr := w_ror x n h0
  go_enter Tryd.func61, Tryd.ntmps61
  go_wp2
  go_quiet (fail)
  go_wp2
  go_ret
  exact ⟨rfl, _, rfl⟩
end

section
open Go.RowKit

theorem und71 : Tryd.prog.underlying 96 = some (.array 64 79) := by kernel_rfl
theorem und56 : Tryd.prog.underlying 80 = some (.array 8 79) := by kernel_rfl
theorem und55 : Tryd.prog.underlying 79 = some (.int .u32) := by kernel_rfl
theorem size55 : Tryd.prog.cellsOf 79 = 1 := by kernel_rfl
theorem size71 : (Tryd.prog.info? 96).map (·.size) = some 64 := by kernel_rfl
theorem run_index_row (xs : List Int) (T n : Nat) (hT : Tryd.prog.underlying T = some (.array n 79)) (hl : xs.length = n) (t : Nat) (x : Int) (hx : xs[t]? = some x) (w : World) :
    (Instr.index T (.agg (xs.map (Value.int .u32)).toArray) (.int .i64 (t : Int))).run Tryd.prog w = .ok (.int .u32 x) w := by
  have ht : t < n := by rw [← hl]; exact (List.getElem?_eq_some_iff.1 hx).1
  obtain ⟨i, hi⟩ := info_of_underlying und55
  have hs : i.size = 1 := by have := size55; unfold Program.cellsOf at this; rw [hi] at this; simpa using this
  unfold Instr.index
  simp only [asIntOf, Sem.run_bind, Sem.run_pure, Result.andThen_ok, run_underlying hT]
  rw [if_pos ⟨by omega, by omega⟩]
  simp only [Sem.run_bind, run_sizeOf w hi, Result.andThen_ok, size55, Int.toNat_natCast, Nat.mul_one]
  exact run_part_int w 79 .u32 und55 xs t x hx
end

section
open Go.RowKit

def u32V (x : UInt32) : Value := .int .u32 (x.toNat : Int)
/-- Block B holds the words ws, and 0 behind them: 64 cells. -/
def WArr (W : World) (B : Nat) (ws : List UInt32) : Prop := Blk W B 96 (ws.map u32V ++ List.replicate (64 - ws.length) (u32V 0)).toArray
theorem WArr.set {W : World} {B : Nat} {ws : List UInt32} (h : WArr W B ws) (hl : ws.length < 64) (x : UInt32) : WArr (W.setCell ⟨B, ws.length, none⟩ (u32V x)) B (ws ++ [x]) := by
  unfold WArr Blk at *
  rw [heap_setCell_same W B ws.length _ 96 (u32V x) h]
  congr 2
  rw [List.setIfInBounds_toArray]
  congr 1
  rw [List.set_append, if_neg (by simp), List.length_map, Nat.sub_self, show 64 - ws.length = (64 - (ws.length + 1)) + 1 from by omega, List.replicate_succ, List.set_cons_zero, List.map_append, List.length_append]
  simp
theorem WArr.cell {W : World} {B : Nat} {ws : List UInt32} (h : WArr W B ws) {j : Nat} (hj : j < ws.length) : W.cell? ⟨B, j, none⟩ = some (.int .u32 ((ws.getD j 0).toNat : Int)) := by
  rw [Blk.cell h j]
  simp only [List.getElem?_toArray]
  rw [List.getElem?_append_left (by simpa using hj), List.getElem?_map, List.getD_eq_getElem?_getD, List.getElem?_eq_getElem hj]
  rfl
theorem WArr.old {W : World} {B : Nat} {ws : List UInt32} (h : WArr W B ws) (hl : ws.length < 64) : W.cell? ⟨B, ws.length, none⟩ = some (.int .u32 0) ∧ W.frozen? ⟨B, ws.length, none⟩ = false := by
  refine ⟨?_, Blk.frozen h _⟩
  rw [Blk.cell h]
  simp only [List.getElem?_toArray]
  rw [List.getElem?_append_right (by simp), List.length_map, Nat.sub_self, List.getElem?_replicate, if_pos (by omega)]
  rfl
theorem WArr.drewN {W : World} {B : Nat} {ws : List UInt32} (h : WArr W B ws) (n : Nat) : WArr (W.drewN n) B ws := h
theorem words0_length (b : List UInt8) : ∀ t, (words0 b t).length = t
  | 0 => rfl
  | t + 1 => by simp [words0, words0_length b t]
theorem words_length (b : List UInt8) : ∀ k, (words b k).length = 16 + k
  | 0 => by simp [words, words0_length]
  | k + 1 => by simp [words, words_length b k]; omega

theorem w_be32 (x0 x1 x2 x3 : UInt8) : bits BinOp.or IntKind.u32 (bits BinOp.or IntKind.u32 (bits BinOp.or IntKind.u32 ((x0.toNat : Int) * 16777216) ((x1.toNat : Int) * 65536)) ((x2.toNat : Int) * 256)) (x3.toNat : Int) = ((be32 x0 x1 x2 x3).toNat : Int) := by
  have e0 : (x0.toNat : Int) * 16777216 = ((byte32 x0 24).toNat : Int) := by rw [w_byte x0 24 (by omega)]; rfl
  have e1 : (x1.toNat : Int) * 65536 = ((byte32 x1 16).toNat : Int) := by rw [w_byte x1 16 (by omega)]; rfl
  have e2 : (x2.toNat : Int) * 256 = ((byte32 x2 8).toNat : Int) := by rw [w_byte x2 8 (by omega)]; rfl
  have e3 : (x3.toNat : Int) = ((byte32 x3 0).toNat : Int) := by rw [w_byte x3 0 (by omega)]; simp
  rw [e0, e1, e2, e3, w_or, w_or, w_or]
  rfl

theorem w_next (v0 v1 v9 v14 : UInt32) : ((v0.toNat : Int) + bits BinOp.xor IntKind.u32 (((ror32 v1 7).toNat ^^^ (ror32 v1 18).toNat : Nat) : Int) ((shr32 v1 3).toNat : Int) + (v9.toNat : Int) +
    bits BinOp.xor IntKind.u32 (((ror32 v14 17).toNat ^^^ (ror32 v14 19).toNat : Nat) : Int) ((shr32 v14 10).toNat : Int)) % 4294967296 = ((((v0 + early v1) + v9) + late v14).toNat : Int) := by
  have e1 : bits BinOp.xor IntKind.u32 (((ror32 v1 7).toNat ^^^ (ror32 v1 18).toNat : Nat) : Int) ((shr32 v1 3).toNat : Int) = ((early v1).toNat : Int) := by rw [← UInt32.toNat_xor, w_xor]; rfl
  have e2 : bits BinOp.xor IntKind.u32 (((ror32 v14 17).toNat ^^^ (ror32 v14 19).toNat : Nat) : Int) ((shr32 v14 10).toNat : Int) = ((late v14).toNat : Int) := by rw [← UInt32.toNat_xor, w_xor]; rfl
  rw [e1, e2]
  simp only [UInt32.toNat_add]
  omega

theorem w_stU (z : St) (k w : UInt32) : (((z.h.toNat : Int) + bits BinOp.xor IntKind.u32 (((ror32 z.e 6).toNat ^^^ (ror32 z.e 11).toNat : Nat) : Int) ((ror32 z.e 25).toNat : Int) +
    bits BinOp.xor IntKind.u32 ((z.e.toNat &&& z.f.toNat : Nat) : Int) (bits BinOp.and IntKind.u32 (bits BinOp.xor IntKind.u32 (if IntKind.u32.signed = true then -1 else IntKind.u32.max) (z.e.toNat : Int)) (z.g.toNat : Int)) +
    (k.toNat : Int)) % 4294967296 + (w.toNat : Int)) % 4294967296 = ((stU z k w).toNat : Int) := by
  have e1 : bits BinOp.xor IntKind.u32 (((ror32 z.e 6).toNat ^^^ (ror32 z.e 11).toNat : Nat) : Int) ((ror32 z.e 25).toNat : Int) = (((ror32 z.e 6 ^^^ ror32 z.e 11) ^^^ ror32 z.e 25).toNat : Int) := by rw [← UInt32.toNat_xor, w_xor]
  have e2 : bits BinOp.xor IntKind.u32 ((z.e.toNat &&& z.f.toNat : Nat) : Int) (bits BinOp.and IntKind.u32 (bits BinOp.xor IntKind.u32 (if IntKind.u32.signed = true then -1 else IntKind.u32.max) (z.e.toNat : Int)) (z.g.toNat : Int)) = (((z.e &&& z.f) ^^^ (not32 z.e &&& z.g)).toNat : Int) := by
    rw [show (if IntKind.u32.signed = true then (-1 : Int) else IntKind.u32.max) = 4294967295 from rfl, w_not, w_and, ← UInt32.toNat_and, w_xor]
  rw [e1, e2]
  simp only [stU, UInt32.toNat_add]
  omega

theorem w_stV (z : St) (u : UInt32) : ((u.toNat : Int) + (bits BinOp.xor IntKind.u32 (bits BinOp.xor IntKind.u32 ((ror32 z.a 2).toNat : Int) ((ror32 z.a 13).toNat : Int)) ((ror32 z.a 22).toNat : Int) +
    bits BinOp.xor IntKind.u32 (bits BinOp.xor IntKind.u32 (bits BinOp.and IntKind.u32 (z.a.toNat : Int) (z.b.toNat : Int)) (bits BinOp.and IntKind.u32 (z.a.toNat : Int) (z.c.toNat : Int))) (bits BinOp.and IntKind.u32 (z.b.toNat : Int) (z.c.toNat : Int))) % 4294967296) % 4294967296 = ((u + stV z).toNat : Int) := by
  rw [w_xor, w_xor, w_and, w_and, w_and, w_xor, w_xor, w_add, w_add]
  rfl
theorem cells8 (s z : St) (zs xs ys : List UInt32) (hl : zs.length = 8) (hx : xs = [s.a, s.b, s.c, s.d, s.e, s.f, s.g, s.h]) (hy : ys = [z.a, z.b, z.c, z.d, z.e, z.f, z.g, z.h]) (h : ∀ j, j < 8 → zs.getD j 0 = if j < 8 then xs.getD j 0 + ys.getD j 0 else xs.getD j 0) :
    zs = [(stAdd s z).a, (stAdd s z).b, (stAdd s z).c, (stAdd s z).d, (stAdd s z).e, (stAdd s z).f, (stAdd s z).g, (stAdd s z).h] := by
  subst hx hy
  match zs, hl with
  | [a0, a1, a2, a3, a4, a5, a6, a7], _ =>
    have h0 := h 0 (by omega)
    have h1 := h 1 (by omega)
    have h2 := h 2 (by omega)
    have h3 := h 3 (by omega)
    have h4 := h 4 (by omega)
    have h5 := h 5 (by omega)
    have h6 := h 6 (by omega)
    have h7 := h 7 (by omega)
    simp at h0 h1 h2 h3 h4 h5 h6 h7
    simp [stAdd, h0, h1, h2, h3, h4, h5, h6, h7]
theorem KeptIn.setAt {S : Nat → Prop} {a w : World} (h : KeptIn S a w) {p : Addr} (hp : ¬ S p.block) (v : Value) : KeptIn S a (w.setCell p v) := by
  have hb := (Below.refl 0 w).setCell (p := p) (Nat.zero_le _) v
  exact h.trans ⟨hb.os, hb.tape, hb.output, hb.size, fun k hk => Below.heap_setCell w p v k (fun e => hp (e ▸ hk))⟩

set_option maxRecDepth 100000 in
set_option maxHeartbeats 1500000 in
theorem Block_any (B : Nat) (s : St) (A : Option Addr) (len cap : Nat) (bs : List UInt8) (w : World) (hb : Blk w B 80 #[u32V s.a, u32V s.b, u32V s.c, u32V s.d, u32V s.e, u32V s.f, u32V s.g, u32V s.h]) (hr : Rd w 1 A len (bs.map byteV)) (hlen : 64 ≤ len) (hA : ∀ b off, A = some ⟨b, off, none⟩ → b ≠ B)
    (hk : ∀ j, j < 64 → w.cell? ⟨1, j, none⟩ = some (.int .u32 ((roundsL.getD j 0).toNat : Int))) (_hB1 : B ≠ 1) :
    Calls Tryd.prog 46 #[.pointer (some ⟨B, 0, none⟩), .slice A len cap] w fun e w' => e = .returned (.tuple #[]) ∧ KeptIn (fun k => k < w.heap.size ∧ k ≠ B) w w' ∧
      (fun x : St => Blk w' B 80 #[u32V x.a, u32V x.b, u32V x.c, u32V x.d, u32V x.e, u32V x.f, u32V x.g, u32V x.h]) (stBlock s bs) := by
  have hle := hr.le
  have hl := hr.len1
  go_enter Tryd.func46, Tryd.ntmps46
  go_wp2_with fail
  have hw0 : WArr (w.alloc (.cells (List.replicate 64 (u32V 0)).toArray 96)) w.heap.size [] := Blk.new w 96 _
  have hB0 : Below w.heap.size w (w.alloc (.cells (List.replicate 64 (u32V 0)).toArray 96)) := (Below.refl _ _).alloc (Nat.le_refl _) _
  go_loopw [5, 25] (fun x t wr => ∃ k : Nat, k ≤ 16 ∧ t = .int .i64 k ∧ WArr wr w.heap.size (words0 bs k) ∧ Below w.heap.size w wr) (fun _ t _ => 16 - (intOf t).toNat)
  case atStart => exact ⟨0, Nat.zero_le _, rfl, hw0, hB0⟩
  case round =>
    obtain ⟨k, hk16, rfl, hW, hB⟩ := hrel
    by_cases hlt : k < 16
    · have hlk := words0_length bs k
      have hrk := hr.below hB
      obtain ⟨b, off, x0, rfl, hx0, c0⟩ := hrk.byte_ (k := 4 * k) (by omega)
      obtain ⟨_, _, x1, hA1, hx1, c1⟩ := hrk.byte_ (k := 4 * k + 1) (by omega)
      cases hA1
      obtain ⟨_, _, x2, hA2, hx2, c2⟩ := hrk.byte_ (k := 4 * k + 2) (by omega)
      cases hA2
      obtain ⟨_, _, x3, hA3, hx3, c3⟩ := hrk.byte_ (k := 4 * k + 3) (by omega)
      cases hA3
      obtain ⟨o1, o2⟩ := hW.old (by omega)
      rw [hlk] at o1 o2
      have y0 := x0.toNat_lt
      have y1 := x1.toNat_lt
      have y2 := x2.toNat_lt
      have y3 := x3.toNat_lt
      have hbe : words0 bs (k + 1) = words0 bs k ++ [be32 x0 x1 x2 x3] := by
        rw [words0]
        simp only [List.getD_eq_getElem?_getD, hx0, hx1, hx2, hx3, Option.getD_some]
      have Hbe := Lib.hid hbe
      have HW := Lib.hid hW
      have HB := Lib.hid hB
      have Hlk := Lib.hid hlk
      clear hx0 hx1 hx2 hx3 hbe hrk hW hB hlk
      go_wp2
      go_region
      go_wp2
      rw [w_be32]
      have n1 := HW.out.set (by have := Hlk.out; omega) (be32 x0 x1 x2 x3)
      rw [Hlk.out, ← Hbe.out] at n1
      exact ⟨⟨k + 1, by omega, by go_num, n1, (HB.out.setCell (Nat.le_refl _) _).drew⟩, by simp [intOf]; omega⟩
    · obtain rfl : k = 16 := by omega
      have hW1 : WArr wr w.heap.size (words bs 0) := hW
      clear hW hw0 hB0
      go_wp2_with fail
      obtain ⟨wa, hwa⟩ : ∃ wa, wa = wr := ⟨_, rfl⟩
      subst hwa
      go_loopw [6, 7, 8] (fun t f g wr => ∃ k : Nat, k ≤ 48 ∧ t = .int .i64 (16 + (k : Int)) ∧ WArr wr w.heap.size (words bs k) ∧ Below w.heap.size w wr) (fun t _ _ _ => 64 - (intOf t).toNat)
      case atStart => exact ⟨0, Nat.zero_le _, rfl, hW1, hB⟩
      case round =>
        obtain ⟨k, hk48, rfl, hW, hB⟩ := hrel
        have hlk := words_length bs k
        by_cases hlt : k < 48
        · obtain ⟨o1, o2⟩ := hW.old (by omega)
          rw [hlk] at o1 o2
          have d0 := hW.cell (j := k) (by omega)
          have d1 := hW.cell (j := 16 + k - 15) (by omega)
          have d9 := hW.cell (j := 16 + k - 7) (by omega)
          have d14 := hW.cell (j := 16 + k - 2) (by omega)
          have hnx : words bs (k + 1) = words bs k ++ [nextWord (words bs k) (16 + k)] := rfl
          unfold nextWord at hnx
          rw [show 16 + k - 16 = k from by omega] at hnx
          generalize (words bs k).getD k 0 = v0 at *
          generalize (words bs k).getD (16 + k - 15) 0 = v1 at *
          generalize (words bs k).getD (16 + k - 7) 0 = v9 at *
          generalize (words bs k).getD (16 + k - 2) 0 = v14 at *
          have Hnx := Lib.hid hnx
          have HW := Lib.hid hW
          have HB := Lib.hid hB
          have Hlk := Lib.hid hlk
          clear hnx hW hB hlk
          go_wp2
          go_quiet (fail)
          go_wp2
          obtain ⟨wn, hwn⟩ : ∃ wn, wn = wr.drewN nq := ⟨_, rfl⟩
          rw [← hwn]
          replace d0 : wn.cell? ⟨w.heap.size, k, none⟩ = some (.int .u32 (v0.toNat : Int)) := by rw [hwn]; exact d0
          replace d1 : wn.cell? ⟨w.heap.size, 16 + k - 15, none⟩ = some (.int .u32 (v1.toNat : Int)) := by rw [hwn]; exact d1
          replace d9 : wn.cell? ⟨w.heap.size, 16 + k - 7, none⟩ = some (.int .u32 (v9.toNat : Int)) := by rw [hwn]; exact d9
          replace d14 : wn.cell? ⟨w.heap.size, 16 + k - 2, none⟩ = some (.int .u32 (v14.toNat : Int)) := by rw [hwn]; exact d14
          replace o1 : wn.cell? ⟨w.heap.size, 16 + k, none⟩ = some (.int .u32 0) := by rw [hwn]; exact o1
          replace o2 : wn.frozen? ⟨w.heap.size, 16 + k, none⟩ = false := by rw [hwn]; exact o2
          replace HW : RowKit.Hid (WArr wn w.heap.size (words bs k)) := by rw [hwn]; exact HW
          replace HB : RowKit.Hid (Below w.heap.size w wn) := by rw [hwn]; exact below_drewN HB nq
          clear hwn
          have wx := w_xor
          have wad := w_add
          have wf : ((v1.toNat : Int)) / 8 = ((shr32 v1 3).toNat : Int) := by rw [w_shr]; rfl
          have wg : ((v14.toNat : Int)) / 1024 = ((shr32 v14 10).toNat : Int) := by rw [w_shr]; rfl
          have hC1 : ∀ a, Calls Tryd.prog 61 #[.int .u32 (v1.toNat : Int), .int .i64 7] (wn.drewN a) fun e w'' => e = .returned (.int .u32 ((ror32 v1 7).toNat : Int)) ∧ ∃ m, w'' = wn.drewN m := fun a => Calls.quiet_of (Ror_any v1 7 (by omega) (by omega) _)
          have hC2 : ∀ a, Calls Tryd.prog 61 #[.int .u32 (v1.toNat : Int), .int .i64 18] (wn.drewN a) fun e w'' => e = .returned (.int .u32 ((ror32 v1 18).toNat : Int)) ∧ ∃ m, w'' = wn.drewN m := fun a => Calls.quiet_of (Ror_any v1 18 (by omega) (by omega) _)
          have hC3 : ∀ a, Calls Tryd.prog 61 #[.int .u32 (v14.toNat : Int), .int .i64 17] (wn.drewN a) fun e w'' => e = .returned (.int .u32 ((ror32 v14 17).toNat : Int)) ∧ ∃ m, w'' = wn.drewN m := fun a => Calls.quiet_of (Ror_any v14 17 (by omega) (by omega) _)
          have hC4 : ∀ a, Calls Tryd.prog 61 #[.int .u32 (v14.toNat : Int), .int .i64 19] (wn.drewN a) fun e w'' => e = .returned (.int .u32 ((ror32 v14 19).toNat : Int)) ∧ ∃ m, w'' = wn.drewN m := fun a => Calls.quiet_of (Ror_any v14 19 (by omega) (by omega) _)
          refine wp_region_quiet_tail 35 (by kernel_rfl) (List.take_append_drop _ _) rfl (by kernel_rfl) (by kernel_rfl) (by kernel_rfl) (by kernel_rfl) (by kernel_rfl) (by decide) (by kernel_rfl) ?_
          simp only [List.take_succ_cons, List.take_zero, List.drop_succ_cons, List.drop_zero]
          repeat (go_big_quiet_step (first | with_reducible exact hC1 _ | with_reducible exact hC2 _ | with_reducible exact hC3 _ | with_reducible exact hC4 _))
          refine wpQuiet_nil ?_
          intro wq hw'
          obtain ⟨nq2, rfl⟩ := hw'
          go_wp2
          rw [w_next]
          have n1 := (HW.out.drewN nq2).set (by have := Hlk.out; omega) (v0 + early v1 + v9 + late v14)
          rw [Hlk.out, ← Hnx.out] at n1
          exact ⟨⟨k + 1, by omega, by go_num, n1, (below_drewN HB.out nq2).setCell (Nat.le_refl _) _⟩, by simp [intOf]; omega⟩
        · obtain rfl : k = 48 := by omega
          have hb2 : Blk wr B 80 #[u32V s.a, u32V s.b, u32V s.c, u32V s.d, u32V s.e, u32V s.f, u32V s.g, u32V s.h] := hb.below hB hb.lt
          have a0 := hb2.cell 0
          have a1 := hb2.cell 1
          have a2 := hb2.cell 2
          have a3 := hb2.cell 3
          have a4 := hb2.cell 4
          have a5 := hb2.cell 5
          have a6 := hb2.cell 6
          have a7 := hb2.cell 7
          simp only [List.getElem?_toArray, List.getElem?_cons_zero, List.getElem?_cons_succ, u32V] at a0 a1 a2 a3 a4 a5 a6 a7
          have hkr : ∀ j, j < 64 → wr.cell? ⟨1, j, none⟩ = some (.int .u32 ((roundsL.getD j 0).toNat : Int)) := fun j hj => (hB.cell (World.block_lt_of_cell? w _ (hk j hj))).trans (hk j hj)
          have hr64 : roundsL.length = 64 := rfl
          have hrange : wr.rangeAt 1 0 ((roundsL.map fun x => (x.toNat : Int)).map (Value.int .u32)) := fun j v hv => by
            rw [List.getElem?_map, List.getElem?_map] at hv
            obtain ⟨z, hz, rfl⟩ := Option.map_eq_some_iff.1 hv
            obtain ⟨y, hy, rfl⟩ := Option.map_eq_some_iff.1 hz
            have hj := (List.getElem?_eq_some_iff.1 hy).1
            rw [Nat.zero_add, hkr j (by omega), List.getD_eq_getElem?_getD, hy]
            rfl
          have hWL := words_length bs 48
          generalize hWS : words bs 48 = WS at *
          have HWS := Lib.hid hWS
          have HWL := Lib.hid hWL
          clear hWS hWL
          have HW := Lib.hid hW
          have HB := Lib.hid hB
          have Hb := Lib.hid hb2
          have hRK : ∀ t, t < 64 → (roundsL.map fun x => (x.toNat : Int))[t]? = some ((roundsL.getD t 0).toNat : Int) := fun t ht => by
            rw [List.getElem?_map, List.getD_eq_getElem?_getD, List.getElem?_eq_getElem (by omega)]
            rfl
          have hRL : (roundsL.map fun x => (x.toNat : Int)).length = 64 := by rw [List.length_map]; rfl
          generalize (roundsL.map fun x => (x.toNat : Int)) = RK at *
          clear hkr hW hB hb2 hr64
          go_wp2_with fail
          go_quiet (fail)
          clear a0 a1 a2 a3 a4 a5 a6 a7
          go_upto_region 12 with fail
          obtain ⟨CS, hCS⟩ : ∃ CS, CS = RK.map (Value.int .u32) := ⟨_, rfl⟩
          have hCL : CS.length = 64 := by rw [hCS, List.length_map, hRL]
          rw [← hCS] at hrange
          have HCS := Lib.hid hCS
          clear hCS
          go_wp2_with (refine wpList_load_mid rfl 96 (.global 1) rfl 1 0 rfl CS _ (by exact hrange) und71 rfl (by rw [hCL]; exact size71) ?_)
          have HB56 := Lib.hid hb
          have HK := Lib.hid hk
          clear hk hr hb
          obtain ⟨wb, hwb⟩ : ∃ wb, wb = wr := ⟨_, rfl⟩
          subst hwb
          go_loopw [9, 10, 11, 12, 13, 14, 15, 16, 17, 18, 19, 20, 21, 22, 146] (fun sa sb sc sd se sf sg sh t k x y u v n wx => ∃ q : Nat, q ≤ 64 ∧ n = .int .i64 q ∧ sa = .int .u32 ((stRounds WS s q).a.toNat : Int) ∧ sb = .int .u32 ((stRounds WS s q).b.toNat : Int) ∧ sc = .int .u32 ((stRounds WS s q).c.toNat : Int) ∧ sd = .int .u32 ((stRounds WS s q).d.toNat : Int) ∧ se = .int .u32 ((stRounds WS s q).e.toNat : Int) ∧ sf = .int .u32 ((stRounds WS s q).f.toNat : Int) ∧ sg = .int .u32 ((stRounds WS s q).g.toNat : Int) ∧ sh = .int .u32 ((stRounds WS s q).h.toNat : Int) ∧ ∃ m, wx = wb.drewN m) (fun _ _ _ _ _ _ _ _ _ _ _ _ _ _ n _ => 64 - (intOf n).toNat)
          case atStart => exact ⟨0, Nat.zero_le _, rfl, rfl, rfl, rfl, rfl, rfl, rfl, rfl, rfl, _, rfl⟩
          case round =>
            obtain ⟨q, hq, rfl, rfl, rfl, rfl, rfl, rfl, rfl, rfl, rfl, m, rfl⟩ := hrel
            by_cases hlt : q < 64
            · have hkq := hRK q hlt
              have cw := HW.out.cell (j := q) (by have := HWL.out; omega)
              have hst : stRounds WS s (q + 1) = stStep (stRounds WS s q) (roundsL.getD q 0) (WS.getD q 0) := rfl
              generalize stRounds WS s q = z at *
              generalize roundsL.getD q 0 = kq at *
              generalize WS.getD q 0 = wq at *
              have hix : ∀ W, (Instr.index 96 (.agg CS.toArray) (.int .i64 (q : Int))).run Tryd.prog W = .ok (.int .u32 (kq.toNat : Int)) W := fun W => by rw [HCS.out]; exact run_index_row RK 96 64 und71 hRL q _ hkq W
              have Hst := Lib.hid hst
              clear hst hkq hRK hrange hCL hRL
              clear HK HCS HWS HB56
              go_upto_region 16 with fail
              obtain ⟨wc, hwc⟩ : ∃ wc, wc = wb.drewN m := ⟨_, rfl⟩
              rw [← hwc]
              replace cw : wc.cell? ⟨w.heap.size, q, none⟩ = some (.int .u32 (wq.toNat : Int)) := by rw [hwc]; exact cw
              have Hwc := Lib.hid hwc
              clear hwc
              have wx := w_xor
              have wan := w_and
              have wno := w_not
              have wad := w_add
              have hC1 : ∀ a, Calls Tryd.prog 61 #[.int .u32 (z.e.toNat : Int), .int .i64 6] (wc.drewN a) fun e w'' => e = .returned (.int .u32 ((ror32 z.e 6).toNat : Int)) ∧ ∃ m, w'' = wc.drewN m := fun a => Calls.quiet_of (Ror_any z.e 6 (by omega) (by omega) _)
              have hC2 : ∀ a, Calls Tryd.prog 61 #[.int .u32 (z.e.toNat : Int), .int .i64 11] (wc.drewN a) fun e w'' => e = .returned (.int .u32 ((ror32 z.e 11).toNat : Int)) ∧ ∃ m, w'' = wc.drewN m := fun a => Calls.quiet_of (Ror_any z.e 11 (by omega) (by omega) _)
              have hC3 : ∀ a, Calls Tryd.prog 61 #[.int .u32 (z.e.toNat : Int), .int .i64 25] (wc.drewN a) fun e w'' => e = .returned (.int .u32 ((ror32 z.e 25).toNat : Int)) ∧ ∃ m, w'' = wc.drewN m := fun a => Calls.quiet_of (Ror_any z.e 25 (by omega) (by omega) _)
              go_quiet (first | with_reducible exact hC1 _ | with_reducible exact hC2 _ | with_reducible exact hC3 _)
              rw [w_stU]
              generalize hu : stU z kq wq = uu
              have Hu := Lib.hid hu
              clear hu hix cw wx wan wno wad hC1 hC2 hC3
              go_wp2_with fail
              refine (Ror_any z.a 2 (by omega) (by omega) _).mono ?_
              rintro e w' ⟨rfl, n1, rfl⟩
              go_wp2_with fail
              refine (Ror_any z.a 13 (by omega) (by omega) _).mono ?_
              rintro e w' ⟨rfl, n2, rfl⟩
              go_wp2_with fail
              refine (Ror_any z.a 22 (by omega) (by omega) _).mono ?_
              rintro e w' ⟨rfl, n3, rfl⟩
              go_wp2_with fail
              rw [w_stV]
              refine ⟨⟨q + 1, by omega, by go_num, ?_⟩, by simp [intOf]; omega⟩
              rw [Hst.out]
              simp only [stStep, Hu.out, w_add, true_and]
              exact ⟨nq + n1 + n2 + n3 + m, by rw [Hwc.out]; simp [World.drewN, Nat.add_comm, Nat.add_left_comm]⟩
            · obtain rfl : q = 64 := by omega
              clear HK HCS HB56 hrange
              generalize hz : stRounds WS s 64 = z at *
              have Hz := Lib.hid hz
              clear hz
              have hB4 : Blk (wb.drewN m) B 80 #[u32V s.a, u32V s.b, u32V s.c, u32V s.d, u32V s.e, u32V s.f, u32V s.g, u32V s.h] := Hb.out
              have hK4 : KeptIn (fun k => k < w.heap.size ∧ k ≠ B) w (wb.drewN m) := KeptIn.of_below (below_drewN HB.out m) (fun k hk => hk.1)
              generalize wb.drewN m = wd at *
              go_wp2_with fail
              have hfin : stBlock s bs = stAdd s z := by rw [stBlock, HWS.out, Hz.out]
              have Hfin := Lib.hid hfin
              clear hfin HWS HWL Hz HW HB Hb
              obtain ⟨ys, hys⟩ : ∃ ys : List UInt32, ys = [z.a, z.b, z.c, z.d, z.e, z.f, z.g, z.h] := ⟨_, rfl⟩
              obtain ⟨xs, hxs⟩ : ∃ xs : List UInt32, xs = [s.a, s.b, s.c, s.d, s.e, s.f, s.g, s.h] := ⟨_, rfl⟩
              have hyl : ys.length = 8 := by rw [hys]; rfl
              have hxl : xs.length = 8 := by rw [hxs]; rfl
              have hix : ∀ q : Nat, q < 8 → ∀ W, (Instr.index 80 (.agg #[Value.int .u32 (z.a.toNat : Int), Value.int .u32 (z.b.toNat : Int), Value.int .u32 (z.c.toNat : Int), Value.int .u32 (z.d.toNat : Int), Value.int .u32 (z.e.toNat : Int), Value.int .u32 (z.f.toNat : Int), Value.int .u32 (z.g.toNat : Int), Value.int .u32 (z.h.toNat : Int)]) (.int .i64 (q : Int))).run Tryd.prog W = .ok (.int .u32 ((ys.getD q 0).toNat : Int)) W := by
                intro q hq W
                have := run_index_row (ys.map fun y => (y.toNat : Int)) 80 8 und56 (by rw [List.length_map, hyl]) q ((ys.getD q 0).toNat : Int) (by rw [List.getElem?_map, List.getD_eq_getElem?_getD, List.getElem?_eq_getElem (by omega)]; rfl) W
                rw [hys] at this ⊢
                exact this
              have h40 : ∃ zs : List UInt32, zs.length = 8 ∧ (∀ j, j < 8 → zs.getD j 0 = if j < 0 then xs.getD j 0 + ys.getD j 0 else xs.getD j 0) ∧ Blk wd B 80 (zs.map u32V).toArray := ⟨xs, hxl, fun j _ => by simp, by rw [hxs]; exact hB4⟩
              clear hB4
              have Hys := Lib.hid hys
              have Hxs := Lib.hid hxs
              clear hys hxs
              obtain ⟨we, hwe⟩ : ∃ we, we = wd := ⟨_, rfl⟩
              subst hwe
              go_loopw [23, 24, 221] (fun _ _ t wx => ∃ q : Nat, q ≤ 8 ∧ t = .int .i64 q ∧ (∃ zs : List UInt32, zs.length = 8 ∧ (∀ j, j < 8 → zs.getD j 0 = if j < q then xs.getD j 0 + ys.getD j 0 else xs.getD j 0) ∧ Blk wx B 80 (zs.map u32V).toArray) ∧ KeptIn (fun k => k < w.heap.size ∧ k ≠ B) w wx) (fun _ _ t _ => 8 - (intOf t).toNat)
              case atStart => exact ⟨0, Nat.zero_le _, rfl, h40, hK4⟩
              case round =>
                obtain ⟨q, hq, rfl, ⟨zs, hzl, hzs, hZ⟩, hK⟩ := hrel
                by_cases hlt : q < 8
                · have hi := hix q hlt
                  have hzq := hzs q hlt
                  rw [if_neg (by omega)] at hzq
                  have c0 : wr.cell? ⟨B, q, none⟩ = some (.int .u32 ((xs.getD q 0).toNat : Int)) := by
                    rw [hZ.cell q, List.getElem?_toArray, List.getElem?_map, List.getElem?_eq_getElem (by omega), ← hzq, List.getD_eq_getElem?_getD, List.getElem?_eq_getElem (by omega)]
                    rfl
                  have f0 : wr.frozen? ⟨B, q, none⟩ = false := hZ.frozen q
                  have hs1 : (xs.getD q 0 + ys.getD q 0) = (fun n => xs.getD n 0 + ys.getD n 0) q := rfl
                  have Hs1 := Lib.hid hs1
                  clear hs1
                  generalize xs.getD q 0 = xq at *
                  generalize ys.getD q 0 = yq at *
                  have HZ := Lib.hid hZ
                  have HK := Lib.hid hK
                  have HZS := Lib.hid hzs
                  clear hZ hK hzs hix hzq h40
                  go_upto_region 23 with fail
                  clear hi hyl hxl
                  go_region
                  go_wp2
                  rw [w_add]
                  have hnew : Blk (wr.setCell ⟨B, q, none⟩ (u32V (xq + yq))).drew B 80 ((zs.set q (xq + yq)).map u32V).toArray := by
                    refine (heap_setCell_same wr B q _ 80 (u32V (xq + yq)) HZ.out).trans ?_
                    rw [List.setIfInBounds_toArray, List.map_set]
                  have hk5 := HK.out.setAt (p := ⟨B, q, none⟩) (by simp) (u32V (xq + yq))
                  refine ⟨⟨q + 1, by omega, by go_num, ⟨zs.set q (xq + yq), by rw [List.length_set, hzl], ?_, hnew⟩, ⟨hk5.os, hk5.tape, hk5.output, hk5.size, hk5.block⟩⟩, by simp [intOf]; omega⟩
                  intro j hj
                  rw [List.getD_eq_getElem?_getD, List.getElem?_set]
                  by_cases hjq : q = j
                  · subst hjq
                    rw [if_pos rfl, if_pos (by omega), if_pos (by omega)]
                    exact Hs1.out
                  · rw [if_neg hjq, ← List.getD_eq_getElem?_getD, HZS.out j hj]
                    by_cases hj2 : j < q
                    · rw [if_pos hj2, if_pos (by omega)]
                    · rw [if_neg hj2, if_neg (by omega)]
                · obtain rfl : q = 8 := by omega
                  have HZ := Lib.hid hZ
                  have HK := Lib.hid hK
                  have HZS := Lib.hid hzs
                  clear hix h40 hZ hK hzs
                  go_wp2
                  have hz8 := cells8 s z zs xs ys hzl Hxs.out Hys.out HZS.out
                  refine bodyPost_end (results_none rfl _ _ _) rfl ⟨rfl, HK.out, ?_⟩
                  rw [Hfin.out]
                  have hZ := HZ.out
                  rw [hz8] at hZ
                  exact hZ
end

end Go.Proofs.YtfdhiilhjfbehaaDoor
