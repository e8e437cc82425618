/- Words of 32 bits: what the model's arithmetic makes of them. -/
import Derived.Test.YtgblkaoioeceiaaDoorRows
import Derived.Test.YtgblkaoioeceiaaDoorSha
import Derived.WalkKit
import Derived.WalkSpells
import Derived.BigQuiet
import Derived.Deep.Draws
import Derived.Deep.QuietTactic
import Derived.Laws.BitsAllLaws
namespace Go.Proofs.YtgblkaoioeceiaaDoor
open Go.RowKit

theorem w_xor (x y : UInt32) : bits .xor .u32 (x.toNat : Int) (y.toNat : Int) = ((x ^^^ y).toNat : Int) := by
  rw [u32_xor_nat _ _ x.toNat_lt y.toNat_lt, UInt32.toNat_xor]
theorem w_and (x y : UInt32) : bits .and .u32 (x.toNat : Int) (y.toNat : Int) = ((x &&& y).toNat : Int) := by
  rw [u32_and_nat _ _ x.toNat_lt y.toNat_lt, UInt32.toNat_and]
theorem w_or (x y : UInt32) : bits .or .u32 (x.toNat : Int) (y.toNat : Int) = ((x ||| y).toNat : Int) := by
  rw [u32_or_nat _ _ x.toNat_lt y.toNat_lt, UInt32.toNat_or]
theorem w_add (x y : UInt32) : ((x.toNat : Int) + (y.toNat : Int)) % 4294967296 = ((x + y).toNat : Int) := by
  rw [UInt32.toNat_add]; omega
theorem w_addw (x y : UInt32) : IntKind.u32.wrap ((x.toNat : Int) + (y.toNat : Int)) = ((x + y).toNat : Int) := by
  rw [IntKind.wrap_u32, w_add]
theorem w_not (x : UInt32) : bits .xor .u32 4294967295 (x.toNat : Int) = ((not32 x).toNat : Int) := by
  have h := u32_xor_nat 4294967295 x.toNat (by omega) x.toNat_lt
  rw [show ((4294967295 : Nat) : Int) = 4294967295 from rfl] at h
  rw [h]
  unfold not32
  rw [UInt32.toNat_ofNat', Nat.mod_eq_of_lt (Nat.xor_lt_two_pow x.toNat_lt (by omega)), Nat.xor_comm]
theorem w_ror (x : UInt32) (n : Nat) (_h0 : 0 < n) : bits .or .u32 ((x.toNat : Int) / 2 ^ n) ((x.toNat : Int) * 2 ^ (32 - n) % 4294967296) = ((ror32 x n).toNat : Int) := by
  have h1 : x.toNat / 2 ^ n < 4294967296 := Nat.lt_of_le_of_lt (Nat.div_le_self _ _) x.toNat_lt
  have h2 : x.toNat * 2 ^ (32 - n) % 4294967296 < 4294967296 := Nat.mod_lt _ (by omega)
  have e1 : (x.toNat : Int) / 2 ^ n = ((x.toNat / 2 ^ n : Nat) : Int) := by simp
  have e2 : (x.toNat : Int) * 2 ^ (32 - n) % 4294967296 = ((x.toNat * 2 ^ (32 - n) % 4294967296 : Nat) : Int) := by simp
  rw [e1, e2, u32_or_nat _ _ h1 h2]
  unfold ror32
  rw [UInt32.toNat_ofNat', Nat.mod_eq_of_lt (Nat.or_lt_two_pow h1 h2)]
theorem w_shr (x : UInt32) (n : Nat) : ((shr32 x n).toNat : Int) = (x.toNat : Int) / 2 ^ n := by
  unfold shr32
  rw [UInt32.toNat_ofNat', Nat.mod_eq_of_lt (Nat.lt_of_le_of_lt (Nat.div_le_self _ _) x.toNat_lt)]
  simp
theorem w_byte (b : UInt8) (n : Nat) (hn : n ≤ 24) : ((byte32 b n).toNat : Int) = (b.toNat : Int) * 2 ^ n := by
  have hb := b.toNat_lt
  have h2 : 2 ^ n ≤ 2 ^ 24 := Nat.pow_le_pow_right (by omega) hn
  have h3 : b.toNat * 2 ^ n ≤ 255 * 2 ^ 24 := Nat.mul_le_mul (by omega) h2
  unfold byte32
  rw [UInt32.toNat_ofNat', Nat.mod_eq_of_lt (by omega)]
  simp

set_option maxHeartbeats 400000 in
theorem Ror_any (x : UInt32) (n : Nat) (h0 : 0 < n) (hn : n < 32) (w : World) :
    Calls Tryd.prog 42 #[.int .u32 (x.toNat : Int), .int .i64 (n : Int)] w fun e w' => e = .returned (.int .u32 ((ror32 x n).toNat : Int)) ∧ ∃ k, w' = w.drewN k := by
  have hx := x.toNat_lt
  have hr := w_ror x n h0
  go_enter Tryd.func42, Tryd.ntmps42
  go_wp2
  go_quiet (fail)
  go_wp2
  go_ret
  exact ⟨rfl, _, rfl⟩
end Go.Proofs.YtgblkaoioeceiaaDoor
