/- The reference of package fetch: Cut, Done. -/
import Derived.Test.YthlecmmngldodaaDoorF2
namespace Go.Proofs.YthlecmmngldodaaDoor
open Go.RowKit Go.Sort

def cutAt (bs : List UInt8) (i : Nat) : List UInt8 := (bs.take (1024 * i + 1024)).drop (1024 * i)
def cutL (bs : List UInt8) : List (List UInt8) := (List.range ((bs.length + 1023) / 1024)).map (cutAt bs)
theorem cutL_len (bs : List UInt8) : (cutL bs).length = (bs.length + 1023) / 1024 := by simp [cutL]
theorem slV_one1 (v : Sl) : ∀ u ∈ [slV v], u.oneCell' = true := fun u hu => by simp at hu; subst hu; rfl

set_option maxRecDepth 100000 in
set_option maxHeartbeats 1000000 in
theorem RCut_any (A : Option Addr) (len cap : Nat) (bs : List UInt8) (w : World) (hr : Rd w 1 A len (bs.map byteV)) (h0 : 0 < len) (hlen : len ≤ 262144) (hcap : len ≤ cap) :
    Calls Tryd.prog 14 #[.slice A len cap] w fun e w' => ∃ A' c', e = .returned (.tuple #[.slice A' ((len + 1023) / 1024) c', .int .i64 0]) ∧ (len + 1023) / 1024 ≤ c' ∧ Lst w' A' ((len + 1023) / 1024) (cutL bs) ∧ Below w.heap.size w w' := by
  obtain ⟨i0, hi0, hz0, hz1, hz2⟩ := info_parts info22
  have hbl := hr.len1
  obtain ⟨b, off, rfl, _⟩ := hr.2.2 h0
  have hcl : cutL bs = (List.range ((len + 1023) / 1024)).map (cutAt bs) := by unfold cutL; rw [hbl]
  have Hcl := Lib.hid hcl
  have Hr := Lib.hid hr
  have Hbl := Lib.hid hbl
  have hd0 : ((len : Int) == 0) = false := by rw [beq_eq_false_iff_ne]; omega
  clear hr hcl hbl
  go_enter Tryd.func14, Tryd.ntmps14
  go_wp2_with fail
  go_loopw [4, 5] (fun v4 v5 wr => ∃ (k m : Nat) (vs : List Sl), m = 1024 * k ∧ 1024 * k ≤ len + 1023 ∧ v5 = .int .i64 (m : Int) ∧ App wr w.heap.size 22 v4 k (vs.map slV) ∧ Cut w vs ((List.range k).map (cutAt bs)) ∧ Below w.heap.size w wr) (fun _ v5 _ => len - (intOf v5).toNat)
  case atStart => exact ⟨0, 0, [], rfl, by omega, rfl, .inl ⟨rfl, rfl, _, rfl⟩, ⟨rfl, fun k v c h => by simp at h⟩, (Below.refl _ _).alloc (Nat.le_refl _) _⟩
  case round =>
    obtain ⟨k, m, vs, hm, hkl, rfl, happ, hcut, hB⟩ := hrel
    have hsz := hB.size
    by_cases hlt : m < len
    · obtain ⟨e, he, hme, hel, hee⟩ : ∃ e : Nat, (if (len : Int) < (m : Int) + 1024 then (len : Int) else (m : Int) + 1024) = (e : Int) ∧ m ≤ e ∧ e ≤ len ∧ bs.take (m + 1024) = bs.take e := by
        by_cases h : len < m + 1024
        · exact ⟨len, by rw [if_pos (by omega)], by omega, Nat.le_refl _, by rw [List.take_of_length_le (by rw [Hbl.out]; omega), List.take_of_length_le (by rw [Hbl.out]; omega)]⟩
        · exact ⟨m + 1024, by rw [if_neg (by omega)]; omega, by omega, by omega, rfl⟩
      have hpt := Hr.out.part (i := m) (j := e) hme hel
      rw [← hee, hm] at hpt
      have hsn := hcut.snoc (v := ⟨some ⟨b, off + m, none⟩, e - m, cap - m⟩) (c := cutAt bs k) (by rw [← hm] at hpt; unfold cutAt; rw [← hm]; exact hpt) (by show e - m ≤ cap - m; omega)
      have hrs : (List.range (k + 1)).map (cutAt bs) = (List.range k).map (cutAt bs) ++ [cutAt bs k] := by rw [List.range_succ, List.map_append]; rfl
      rw [← hrs] at hsn
      have hsl := run_slice_part (P := Tryd.prog) 22 5 b off len cap m e Tryd.underlying22 size22' hme (by omega) (by omega)
      have Hsn := Lib.hid hsn
      have Happ := Lib.hid happ
      have HB := Lib.hid hB
      have Hm := Lib.hid hm
      clear hsn happ hB hm hpt hrs hcut hee
      go_wp2_with (first | rw [he] | (at_builtin; go_loud (refine wpList_app rfl (.tmp 19) (.tmp 28) 27 rfl 22 i0 (.slice none 0 0) 24 Tryd.underlying27 hi0 hz0 hz1 hz2 rfl w.heap.size (by simp; omega) _ _ _ rfl (Happ.out.litE _) (some ⟨wr.heap.size, 0, none⟩) 1 1 [slV ⟨some ⟨b, off + m, none⟩, e - m, cap - m⟩] rfl (lit_rdE _ _ _) (slV_one1 _) (by unfold maxLen; omega) (by omega) ?_; intro v1 w3 happ1 hb1)))
      exact ⟨⟨k + 1, m + 1024, vs ++ [⟨some ⟨b, off + m, none⟩, e - m, cap - m⟩], by have := Hm.out; omega, by have := Hm.out; omega, by go_num, by rw [List.map_append]; exact happ1, Hsn.out, (HB.out.alloc hsz _).trans hb1⟩, by simp [intOf]; omega⟩
    · obtain rfl : k = (len + 1023) / 1024 := by omega
      obtain ⟨A', c', rfl, hc', hR⟩ := happ.rd
      have hL : Lst wr A' ((len + 1023) / 1024) (cutL bs) := by
        rw [Hcl.out]
        exact ⟨vs, hR, by simp, fun k v c hv hc => ⟨((hcut.2 k v c hv hc).1).below hB, (hcut.2 k v c hv hc).2⟩⟩
      have HL := Lib.hid hL
      have HB := Lib.hid hB
      have Hm := Lib.hid hm
      clear hL hB happ hR hcut hm
      go_wp2_with fail
      go_ret2
      exact ⟨A', c', rfl, hc', HL.out, HB.out⟩
end Go.Proofs.YthlecmmngldodaaDoor
