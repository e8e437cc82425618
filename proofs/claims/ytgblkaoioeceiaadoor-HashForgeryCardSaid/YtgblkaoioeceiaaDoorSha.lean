/- SHA-256 in plain Lean, over words of 32 bits: no program in sight. -/
namespace Go.Proofs.YtgblkaoioeceiaaDoor

def ror32 (x : UInt32) (n : Nat) : UInt32 := UInt32.ofNat ((x.toNat / 2 ^ n) ||| (x.toNat * 2 ^ (32 - n) % 4294967296))
def shr32 (x : UInt32) (n : Nat) : UInt32 := UInt32.ofNat (x.toNat / 2 ^ n)
def byte32 (b : UInt8) (n : Nat) : UInt32 := UInt32.ofNat (b.toNat * 2 ^ n)
def not32 (x : UInt32) : UInt32 := UInt32.ofNat (x.toNat ^^^ 4294967295)
/-- The word that four bytes make. -/
def be32 (b0 b1 b2 b3 : UInt8) : UInt32 := ((byte32 b0 24 ||| byte32 b1 16) ||| byte32 b2 8) ||| byte32 b3 0
/-- The words of a block, the first t of them (t ≤ 16). -/
def words0 (b : List UInt8) : Nat → List UInt32
  | 0 => []
  | t + 1 => words0 b t ++ [be32 (b.getD (4 * t) 0) (b.getD (4 * t + 1) 0) (b.getD (4 * t + 2) 0) (b.getD (4 * t + 3) 0)]
def early (x : UInt32) : UInt32 := (ror32 x 7 ^^^ ror32 x 18) ^^^ shr32 x 3
def late (x : UInt32) : UInt32 := (ror32 x 17 ^^^ ror32 x 19) ^^^ shr32 x 10
def nextWord (ws : List UInt32) (t : Nat) : UInt32 := ((ws.getD (t - 16) 0 + early (ws.getD (t - 15) 0)) + ws.getD (t - 7) 0) + late (ws.getD (t - 2) 0)
/-- The words of a block, 16 + k of them. -/
def words (b : List UInt8) : Nat → List UInt32
  | 0 => words0 b 16
  | k + 1 => words b k ++ [nextWord (words b k) (16 + k)]
structure St where
  a : UInt32
  b : UInt32
  c : UInt32
  d : UInt32
  e : UInt32
  f : UInt32
  g : UInt32
  h : UInt32
def stU (s : St) (k w : UInt32) : UInt32 := (((s.h + ((ror32 s.e 6 ^^^ ror32 s.e 11) ^^^ ror32 s.e 25)) + ((s.e &&& s.f) ^^^ (not32 s.e &&& s.g))) + k) + w
def stV (s : St) : UInt32 := ((ror32 s.a 2 ^^^ ror32 s.a 13) ^^^ ror32 s.a 22) + (((s.a &&& s.b) ^^^ (s.a &&& s.c)) ^^^ (s.b &&& s.c))
def stStep (s : St) (k w : UInt32) : St := ⟨stU s k w + stV s, s.a, s.b, s.c, s.d + stU s k w, s.e, s.f, s.g⟩
def roundsL : List UInt32 := [0x428a2f98, 0x71374491, 0xb5c0fbcf, 0xe9b5dba5, 0x3956c25b, 0x59f111f1, 0x923f82a4, 0xab1c5ed5,
  0xd807aa98, 0x12835b01, 0x243185be, 0x550c7dc3, 0x72be5d74, 0x80deb1fe, 0x9bdc06a7, 0xc19bf174,
  0xe49b69c1, 0xefbe4786, 0x0fc19dc6, 0x240ca1cc, 0x2de92c6f, 0x4a7484aa, 0x5cb0a9dc, 0x76f988da,
  0x983e5152, 0xa831c66d, 0xb00327c8, 0xbf597fc7, 0xc6e00bf3, 0xd5a79147, 0x06ca6351, 0x14292967,
  0x27b70a85, 0x2e1b2138, 0x4d2c6dfc, 0x53380d13, 0x650a7354, 0x766a0abb, 0x81c2c92e, 0x92722c85,
  0xa2bfe8a1, 0xa81a664b, 0xc24b8b70, 0xc76c51a3, 0xd192e819, 0xd6990624, 0xf40e3585, 0x106aa070,
  0x19a4c116, 0x1e376c08, 0x2748774c, 0x34b0bcb5, 0x391c0cb3, 0x4ed8aa4a, 0x5b9cca4f, 0x682e6ff3,
  0x748f82ee, 0x78a5636f, 0x84c87814, 0x8cc70208, 0x90befffa, 0xa4506ceb, 0xbef9a3f7, 0xc67178f2]
def stInit : St := ⟨0x6a09e667, 0xbb67ae85, 0x3c6ef372, 0xa54ff53a, 0x510e527f, 0x9b05688c, 0x1f83d9ab, 0x5be0cd19⟩
/-- The state after t rounds. -/
def stRounds (ws : List UInt32) (s : St) : Nat → St
  | 0 => s
  | t + 1 => stStep (stRounds ws s t) (roundsL.getD t 0) (ws.getD t 0)
def stAdd (s x : St) : St := ⟨s.a + x.a, s.b + x.b, s.c + x.c, s.d + x.d, s.e + x.e, s.f + x.f, s.g + x.g, s.h + x.h⟩
/-- The state after a block. -/
def stBlock (s : St) (b : List UInt8) : St := stAdd s (stRounds (words b 48) s 64)
def stBlocks : Nat → St → List UInt8 → St
  | 0, s, _ => s
  | n + 1, s, b => stBlocks n (stBlock s (b.take 64)) (b.drop 64)
/-- What is put behind the bytes. -/
def padLen (n : Nat) : Nat := (119 - n % 64) % 64
def lenByte (n k : Nat) : UInt8 := UInt8.ofNat (n * 8 % 18446744073709551616 / 2 ^ (8 * (7 - k)))
def padded (b : List UInt8) : List UInt8 := b ++ 0x80 :: List.replicate (padLen b.length) 0 ++ (List.range 8).map (lenByte b.length)
def stBytes (s : St) : List UInt8 := [s.a, s.b, s.c, s.d, s.e, s.f, s.g, s.h].flatMap fun x => [UInt8.ofNat (x.toNat / 16777216), UInt8.ofNat (x.toNat / 65536), UInt8.ofNat (x.toNat / 256), UInt8.ofNat x.toNat]
/-- The hash of bytes. -/
def sha (b : List UInt8) : List UInt8 := stBytes (stBlocks ((padded b).length / 64) stInit (padded b))

theorem sha_nil : sha [] = [0xe3, 0xb0, 0xc4, 0x42, 0x98, 0xfc, 0x1c, 0x14, 0x9a, 0xfb, 0xf4, 0xc8, 0x99, 0x6f, 0xb9, 0x24, 0x27, 0xae, 0x41, 0xe4, 0x64, 0x9b, 0x93, 0x4c, 0xa4, 0x95, 0x99, 0x1b, 0x78, 0x52, 0xb8, 0x55] := by decide +kernel
end Go.Proofs.YtgblkaoioeceiaaDoor
