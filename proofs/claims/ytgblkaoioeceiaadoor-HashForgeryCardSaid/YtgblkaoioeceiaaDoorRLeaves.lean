/- The reference's Leaves. -/
import Derived.Test.YtgblkaoioeceiaaDoorRLeaf
namespace Go.Proofs.YtgblkaoioeceiaaDoor
open Go.RowKit Go.Sort

theorem own_empty (w : World) (e : TypeId) (sz : Nat) : (w.alloc (.cells #[] e)).ownsRow w.heap.size e sz (.slice (some ⟨w.heap.size, 0, none⟩) 0 0) 0 [] :=
  ⟨by simp, .inr ⟨_, 0, #[], rfl, Nat.le_refl _, heap_alloc_new _ _, Nat.le_refl _, by unfold maxLen; omega, by simp, by simp⟩⟩
set_option maxRecDepth 100000 in
set_option maxHeartbeats 1000000 in
theorem RLeaves_any (A : Option Addr) (len cap : Nat) (cs : List (List UInt8)) (w : World) (hr : Lst w A len cs) (hlen : len ≤ 1000000) (hcs : ∀ c ∈ cs, c.length ≤ 8796093021000) :
    Calls Tryd.prog 30 #[.slice A len cap] w fun e w' => ∃ A' c', e = .returned (.slice A' len c') ∧ len ≤ c' ∧ Rd w' 32 A' len ((cs.map leafS).flatMap sumC) ∧ Below w.heap.size w w' ∧ ∀ b off, A' = some ⟨b, off, none⟩ → w.heap.size ≤ b := by
  obtain ⟨i0, hi0, hz0, hz1, hz2⟩ := info_parts info32
  have hle := hr.le
  have hl := hr.len
  subst hl
  have hown := own_empty w 32 32
  go_enter Tryd.func30, Tryd.ntmps30
  go_wp2
  go_loopw [3, 4] (fun v i wr => ∃ k : Nat, k ≤ cs.length ∧ i = .int .i64 k ∧ wr.ownsRow w.heap.size 32 32 v k (((cs.take k).map leafS).flatMap sumC) ∧ Below w.heap.size w wr) (fun _ i _ => cs.length - (intOf i).toNat)
  case atStart => exact ⟨0, by omega, rfl, by simpa using hown, (Below.refl _ _).alloc (Nat.le_refl _) _⟩
  case round =>
    obtain ⟨k, hk, rfl, hrow, hB⟩ := hrel
    have hsz := hB.size
    by_cases hlt : k < cs.length
    · obtain ⟨b, off, v, c, rfl, hx, c1, hrd, hvc⟩ := (hr.below hB).at_ hlt
      have hcl := hcs c (List.mem_of_getElem? hx)
      have hvn := hrd.len1
      have hleaf := RLeaf_any v.a v.n v.c c wr hrd (by omega)
      have htk : cs.take (k + 1) = cs.take k ++ [c] := by rw [List.take_add_one, hx]; rfl
      have hlf := leaf_length c
      have Ht := Lib.hid htk
      have Hrow := Lib.hid hrow
      have HB := Lib.hid hB
      have Hleaf := Lib.hid hleaf
      clear htk hx hr hrow hB hleaf hrd hcs hown
      go_wp2_with fail
      refine Hleaf.out.mono ?_
      rintro e w1 ⟨rfl, hb1⟩
      have hrow1 : ∀ o, (w1.alloc o).ownsRow w.heap.size 32 32 u3 k (((cs.take k).map leafS).flatMap sumC) := fun o => (Hrow.out.kept (⟨hb1.os, hb1.tape, hb1.output, hb1.size, fun k hk _ => hb1.block k hk⟩ : wr.grownBy w1 none) (by cases u3.ownBlock <;> simp)).alloc o
      have Hrow1 := Lib.hid hrow1
      have hs1 := hb1.size
      have HB1 := Lib.hid (HB.out.trans (hb1.mono hsz))
      clear hrow1 hb1 Hrow HB
      unfold sumV
      have hlc := sumV_size hlf
      have hll : ((leaf c).map byteV).length = 1 * 32 := by simp [hlf]
      generalize hhs : leaf c = hs at *
      have Hhs := Lib.hid hhs
      clear hhs
      go_wp2_with (first | (refine wpList_build1 rfl 27 32 (.tmp 17) rfl _ i0 _ 32 Tryd.underlying27 hi0 hz0 hz1 (by omega) (by omega) rfl hlc ?_) | (at_builtin; refine wpList_append_own _ rfl (.tmp 12) (.tmp 18) 27 rfl w.heap.size 32 i0 (.agg zero32) 32 32 Tryd.underlying27 hi0 hz0 hz1 hz2 rfl (by decide) _ k _ rfl (Hrow1.out _) ⟨w1.heap.size, 0, none⟩ 1 1 (hs.map byteV) rfl hll (cells_new _ _ _) (oneB _) (by unfold maxLen; omega) (by omega) (by simp; omega) ?_; intro v' w2 hown' hgrow _))
      have hB3 : Below w.heap.size w w2 := (HB1.out.alloc (by omega) _).grown hgrow (by simp; omega) (fun k' e' => ((Hrow1.out (.cells (hs.map byteV).toArray 32)).lt k' e').1)
      exact ⟨⟨k + 1, by omega, by go_num, by rw [Ht.out, List.map_append, List.flatMap_append, List.map_cons, List.map_nil, show [leafS c].flatMap sumC = hs.map byteV from by rw [← Hhs.out]; simp only [List.flatMap_cons, List.flatMap_nil, List.append_nil]; rfl]; exact hown', hB3⟩, by simp [intOf]; omega⟩
    · go_wp2
      go_ret
      obtain rfl : k = cs.length := by omega
      obtain ⟨A2, c2, rfl⟩ := ownsRow_slice hrow
      have hcc := ownsRow_cap hrow
      rw [List.take_length] at hrow
      exact ⟨A2, c2, rfl, hcc, Rd.of_own hrow, hB, fun b off e => (hrow.lt b (by rw [e]; rfl)).1⟩
end Go.Proofs.YtgblkaoioeceiaaDoor
