/- The reference's Padded. -/
import Derived.Test.YtgblkaoioeceiaaDoorLeaf
namespace Go.Proofs.YtgblkaoioeceiaaDoor
open Go.RowKit

theorem lit_rd (w : World) (v : Value) : Rd (w.alloc (.cells #[v] 5)) 1 (some ⟨w.heap.size, 0, none⟩) 1 [v] :=
  ⟨rfl, by omega, fun _ => ⟨_, _, rfl, fun j u hu => by have := cells_new w [v] 5 j u hu; rwa [Addr.add_mid] at this⟩⟩
theorem App.lit {w w0 : World} {base n : Nat} {v : Value} {xs : List Value} (h : App w base 5 v n xs) (o : Obj) (_h0 : w0 = w) : App (w.alloc o) base 5 v n xs := h.below ((Below.refl w.heap.size w).alloc (Nat.le_refl _) o) (Nat.le_refl _)

set_option maxRecDepth 100000 in
set_option maxHeartbeats 1000000 in
theorem RPad_any (A : Option Addr) (len cap : Nat) (bs : List UInt8) (w : World) (hr : Rd w 1 A len (bs.map byteV)) (hlen : len ≤ 8796093022208) :
    Calls Tryd.prog 35 #[.slice A len cap] w fun e w' => ∃ A' n' c', e = .returned (.slice A' n' c') ∧ n' ≤ c' ∧ Rd w' 1 A' n' ((padded bs).map byteV) ∧ Below w.heap.size w w' := by
  obtain ⟨i0, hi0, hz0, hz1, hz2⟩ := info_parts info5
  have hl := hr.len1
  have hpz := padLen_lt bs.length
  have hpd : padLen bs.length = (119 - bs.length % 64) % 64 := rfl
  have hpp : padded bs = bs ++ 0x80 :: List.replicate (padLen bs.length) 0 ++ (List.range 8).map (lenByte bs.length) := rfl
  rw [hpp]
  subst hl
  generalize padLen bs.length = pz at *
  have Hpd := Lib.hid hpd
  clear hpd hpp
  go_enter Tryd.func35, Tryd.ntmps35
  go_wp2_with (first | (at_builtin; refine wpList_app rfl (.tmp 5) (.tmp 6) 22 rfl 5 i0 (.int .u8 0) 1 Tryd.underlying22 hi0 hz0 hz1 hz2 rfl w.heap.size (by simp) _ 0 [] rfl (.inl ⟨rfl, rfl, _, rfl⟩) A bs.length cap (bs.map byteV) rfl (hr.alloc _) (oneB _) (by unfold maxLen; omega) (by omega) ?_; intro v1 w1 happ1 hb1; rw [Nat.zero_add, List.nil_append] at happ1; have Hb1 := Lib.hid (((Below.refl _ w).alloc (Nat.le_refl _) (.cells #[] 5)).trans hb1); have hs1 := Hb1.out.size; have Happ1 := Lib.hid happ1; clear happ1 hb1) | (at_builtin; refine wpList_app rfl (.tmp 8) (.tmp 9) 22 rfl 5 i0 (.int .u8 0) 1 Tryd.underlying22 hi0 hz0 hz1 hz2 rfl w.heap.size (by simp; omega) _ _ _ rfl (Happ1.out.lit _ rfl) (some ⟨w1.heap.size, 0, none⟩) 1 1 [.int .u8 128] rfl (lit_rd _ _) (by simp [Value.oneCell']) (by unfold maxLen; omega) (by omega) ?_; intro v2 w2 happ2 hb2; have Happ2 := Lib.hid happ2; have Hb2 := Lib.hid ((Hb1.out.alloc hs1 (.cells #[.int .u8 128] 5)).trans hb2); clear happ2 hb2))
  have hA2 : App w2 w.heap.size 5 v2 (bs.length + 1 + 0) ((bs ++ 0x80 :: List.replicate 0 0).map byteV) := by simpa [byteV] using Happ2.out
  have HA2 := Lib.hid hA2
  clear hA2 hr
  go_loopw [3] (fun v wx => ∃ z : Nat, z ≤ pz ∧ App wx w.heap.size 5 v (bs.length + 1 + z) ((bs ++ 0x80 :: List.replicate z 0).map byteV) ∧ Below w.heap.size w wx) (fun v _ => bs.length + 200 - slLen v)
  case atStart => exact ⟨0, by omega, HA2.out, Hb2.out⟩
  case round =>
    obtain ⟨z, hz, happ, hB⟩ := hrel
    obtain ⟨Az, cz, rfl, hcz, hRz⟩ := happ.rd
    by_cases h56 : (bs.length + 1 + z) % 64 = 56
    · obtain rfl : z = pz := by have := Hpd.out; omega
      have hA3 : App wr w.heap.size 5 (.slice Az (bs.length + 1 + z) cz) (bs.length + 1 + z + 0) ((bs ++ 0x80 :: List.replicate z 0 ++ (List.range 0).map (lenByte bs.length)).map byteV) := by simpa using happ
      have HA3 := Lib.hid hA3
      have HB3 := Lib.hid hB
      clear hRz happ hB hA3
      go_wp2_with fail
      have H56 := Lib.hid h56
      clear h56
      generalize Value.bool (((bs.length : Int) + 1 + (z : Int)) % 64 != 56) = vb
      go_loopw [3, 4] (fun v t wx => ∃ j : Nat, j ≤ 8 ∧ t = .int .i64 (56 - 8 * (j : Int)) ∧ App wx w.heap.size 5 v (bs.length + 1 + z + j) ((bs ++ 0x80 :: List.replicate z 0 ++ (List.range j).map (lenByte bs.length)).map byteV) ∧ Below w.heap.size w wx) (fun v _ _ => bs.length + 200 - slLen v)
      case atStart => exact ⟨0, by omega, rfl, HA3.out, HB3.out⟩
      case round =>
        obtain ⟨j, hj, rfl, happ, hB⟩ := hrel
        obtain ⟨Az', cz', rfl, hcz', hRz⟩ := happ.rd
        by_cases hj8 : j < 8
        · have HB := Lib.hid hB
          have Happ := Lib.hid happ
          have hsz3 := hB.size
          clear hB happ hRz
          have hlb := lenByte_val bs.length j hj8 hlen
          have Hlb := Lib.hid hlb
          clear hlb
          go_wp2_with (at_builtin; refine wpList_app rfl (.tmp 22) (.tmp 30) 22 rfl 5 i0 (.int .u8 0) 1 Tryd.underlying22 hi0 hz0 hz1 hz2 rfl w.heap.size (by simp; omega) _ _ _ rfl (Happ.out.lit _ rfl) (some ⟨wr.heap.size, 0, none⟩) 1 1 [.int .u8 ((bs.length : Int) * 8 / 2 ^ (56 - 8 * j) % 256)] rfl (lit_rd _ _) (by simp [Value.oneCell']) (by unfold maxLen; omega) (by omega) ?_; intro v1 w2 happ1 hb1)
          refine ⟨⟨j + 1, by omega, by go_num, ?_, (HB.out.alloc hsz3 _).trans hb1⟩, ?_⟩
          · rw [Hlb.out] at happ1
            rw [show bs ++ 0x80 :: List.replicate z 0 ++ (List.range (j + 1)).map (lenByte bs.length) = (bs ++ 0x80 :: List.replicate z 0 ++ (List.range j).map (lenByte bs.length)) ++ [lenByte bs.length j] from by rw [List.range_succ]; simp, List.map_append]
            exact happ1
          · obtain ⟨A3, c3, rfl, _, _⟩ := happ1.rd
            simp only [slLen]
            omega
        · obtain rfl : j = 8 := by omega
          have HR := Lib.hid hRz
          have HB := Lib.hid hB
          clear hRz hB happ
          go_wp2_with fail
          go_ret
          exact ⟨Az', _, cz', rfl, hcz', HR.out, HB.out⟩
    · have HB := Lib.hid hB
      have Happ := Lib.hid happ
      have hsz3 := hB.size
      clear hB happ hRz
      go_wp2_with (at_builtin; refine wpList_app rfl (.tmp 15) (.tmp 16) 22 rfl 5 i0 (.int .u8 0) 1 Tryd.underlying22 hi0 hz0 hz1 hz2 rfl w.heap.size (by simp; omega) _ _ _ rfl (Happ.out.lit _ rfl) (some ⟨wr.heap.size, 0, none⟩) 1 1 [.int .u8 0] rfl (lit_rd _ _) (by simp [Value.oneCell']) (by unfold maxLen; omega) (by omega) ?_; intro v1 w2 happ1 hb1)
      refine ⟨⟨z + 1, by have := Hpd.out; omega, ?_, (HB.out.alloc hsz3 _).trans hb1⟩, ?_⟩
      · have e : bs ++ 0x80 :: List.replicate (z + 1) 0 = (bs ++ 0x80 :: List.replicate z 0) ++ [0] := by rw [List.replicate_succ']; simp
        rw [e, List.map_append]
        exact happ1
      · obtain ⟨A3, c3, rfl, _, _⟩ := happ1.rd
        simp only [slLen]
        have := Hpd.out
        omega
end Go.Proofs.YtgblkaoioeceiaaDoor
