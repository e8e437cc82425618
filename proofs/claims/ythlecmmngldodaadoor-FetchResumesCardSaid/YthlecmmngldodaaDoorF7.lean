/- The reference of package fetch: Long. -/
import Derived.Test.YthlecmmngldodaaDoorF1
namespace Go.Proofs.YthlecmmngldodaaDoor
open Go.RowKit Go.Sort

def longAt (bs : List UInt8) (i : Nat) : UInt8 := UInt8.ofNat (i / 1024) + (if bs.length = 0 then 0 else bs.getD (i % bs.length) 0)
def longL (bs : List UInt8) (n : Nat) : List UInt8 := (List.range (1 + n % 4000)).map (longAt bs)
theorem longL_len (bs : List UInt8) (n : Nat) : (longL bs n).length = 1 + n % 4000 := by simp [longL]

set_option maxRecDepth 100000 in
set_option maxHeartbeats 1000000 in
theorem Long_any (A : Option Addr) (len cap n : Nat) (bs : List UInt8) (hn : n < 65536) (w : World) (hr : Rd w 1 A len (bs.map byteV)) :
    Calls Tryd.prog 12 #[.slice A len cap, .int .u16 (n : Int)] w fun e w' => ∃ A' c', e = .returned (.slice A' (1 + n % 4000) c') ∧ 1 + n % 4000 ≤ c' ∧ Rd w' 1 A' (1 + n % 4000) ((longL bs n).map byteV) ∧ Below w.heap.size w w' := by
  obtain ⟨i0, hi0, hz0, hz1, hz2⟩ := info_parts info5
  have hbl := hr.len1
  have hle := hr.le
  obtain ⟨M, hM⟩ : ∃ M, M = 1 + n % 4000 := ⟨_, rfl⟩
  have hM1 : M ≤ 4000 := by omega
  have hMi : 1 + (n : Int) % 4000 = (M : Int) := by omega
  have hlL : longL bs n = (List.range M).map (longAt bs) := by rw [hM]; rfl
  rw [hlL, ← hM]
  have Hr := Lib.hid hr
  have Hbl := Lib.hid hbl
  clear hr hbl hlL hM
  go_enter Tryd.func12, Tryd.ntmps12
  go_wp2_with fail
  go_loopw [5, 6, 7] (fun v5 v6 _ wr => ∃ k : Nat, k ≤ M ∧ v6 = .int .i64 (k : Int) ∧ App wr w.heap.size 5 v5 k (((List.range k).map (longAt bs)).map byteV) ∧ Below w.heap.size w wr) (fun _ v6 _ _ => M - (intOf v6).toNat)
  case atStart => exact ⟨0, by omega, rfl, .inl ⟨rfl, rfl, _, rfl⟩, (Below.refl _ _).alloc (Nat.le_refl _) _⟩
  case round =>
    obtain ⟨k, hk, rfl, happ, hB⟩ := hrel
    by_cases hlt : k < M
    · have hsz := hB.size
      have Happ := Lib.hid happ
      have HB := Lib.hid hB
      have hk4 : k < 4000 := by omega
      have hrs : ∀ y : UInt8, longAt bs k = y → ((List.range (k + 1)).map (longAt bs)).map byteV = ((List.range k).map (longAt bs)).map byteV ++ [byteV y] := fun y hy => by
        rw [List.range_succ, List.map_append, List.map_append, List.map_cons, List.map_nil, hy]; rfl
      have Hrs := Lib.hid hrs
      clear happ hB hrs
      by_cases h0 : len = 0
      · have hl : longAt bs k = UInt8.ofNat (k / 1024) := by
          unfold longAt; rw [if_pos (by rw [Hbl.out]; exact h0)]; simp
        have Hs := Lib.hid (Hrs.out _ hl)
        subst h0
        have hval : (k : Int) / 1024 = ((UInt8.ofNat (k / 1024)).toNat : Int) := by rw [UInt8.toNat_ofNat']; omega
        obtain ⟨y, hy⟩ : ∃ y, y = UInt8.ofNat (k / 1024) := ⟨_, rfl⟩
        rw [← hy] at hval Hs
        clear hl hy Hrs
        go_wp2_with (at_builtin; go_loud (refine wpList_app rfl (.tmp 32) (.tmp 34) 22 rfl 5 i0 (.int .u8 0) 1 Tryd.underlying22 hi0 hz0 hz1 hz2 rfl w.heap.size (by simp; omega) _ _ _ rfl (Happ.out.litE _) (some ⟨wr.heap.size, 0, none⟩) 1 1 [byteV y] rfl (lit_rdE _ _ _) (by simp [byteV, Value.oneCell']) (by unfold maxLen; omega) (by omega) ?_; intro v1 w3 happ1 hb1))
        exact ⟨⟨k + 1, by omega, by go_num, by rw [Hs.out]; exact happ1, (HB.out.alloc hsz _).trans hb1⟩, by simp [intOf]; omega⟩
      · have hkl : k % len < len := Nat.mod_lt _ (by omega)
        obtain ⟨b, off, x, rfl, hx, cx⟩ := (Hr.out.below HB.out).byte_ hkl
        have hl : longAt bs k = UInt8.ofNat (k / 1024) + x := by
          unfold longAt; rw [if_neg (by rw [Hbl.out]; exact h0), Hbl.out, List.getD_eq_getElem?_getD, hx]; rfl
        have Hs := Lib.hid (Hrs.out _ hl)
        have hd : decide (0 < len) = true := decide_eq_true (by omega)
        have hd1 : decide ((0 : Int) < (len : Int)) = true := decide_eq_true (by omega)
        have hxt := x.toNat_lt
        have hval : ((k : Int) / 1024 + (x.toNat : Int)) % 256 = ((UInt8.ofNat (k / 1024) + x).toNat : Int) := by rw [UInt8.toNat_add, UInt8.toNat_ofNat']; omega
        obtain ⟨y, hy⟩ : ∃ y, y = UInt8.ofNat (k / 1024) + x := ⟨_, rfl⟩
        rw [← hy] at hval Hs
        obtain ⟨q, hq⟩ : ∃ q, q = k % len := ⟨_, rfl⟩
        have hqi : (k : Int) % (len : Int) = (q : Int) := by rw [hq]; omega
        rw [← hq] at cx hkl
        clear hl hy Hrs hx hq
        go_wp2_with (at_builtin; go_loud (refine wpList_app rfl (.tmp 32) (.tmp 34) 22 rfl 5 i0 (.int .u8 0) 1 Tryd.underlying22 hi0 hz0 hz1 hz2 rfl w.heap.size (by simp; omega) _ _ _ rfl (Happ.out.litE _) (some ⟨wr.heap.size, 0, none⟩) 1 1 [byteV y] rfl (lit_rdE _ _ _) (by simp [byteV, Value.oneCell']) (by unfold maxLen; omega) (by omega) ?_; intro v1 w3 happ1 hb1))
        exact ⟨⟨k + 1, by omega, by go_num, by rw [Hs.out]; exact happ1, (HB.out.alloc hsz _).trans hb1⟩, by simp [intOf]; omega⟩
    · obtain rfl : k = M := by omega
      obtain ⟨A', c', rfl, hc', hR⟩ := happ.rd
      have HR := Lib.hid hR
      have HB := Lib.hid hB
      clear hR hB happ
      go_wp2_with fail
      go_ret
      exact ⟨A', c', rfl, hc', HR.out, HB.out⟩
end Go.Proofs.YthlecmmngldodaaDoor
