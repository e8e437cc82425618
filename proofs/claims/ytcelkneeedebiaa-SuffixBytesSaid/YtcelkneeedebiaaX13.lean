/- A list that has each place once is called a permutation. -/
import Derived.Test.YtcelkneeedebiaaX12
namespace Go.Proofs.Ytcelkneeedebiaa
open Go.RowKit Go.Sort

def seenV (l : List Nat) (n i : Nat) : List Value := (List.range n).map fun t => Value.bool (decide (t ∈ l.take i))
theorem seenV_len (l : List Nat) (n i : Nat) : (seenV l n i).length = n := by simp [seenV]
theorem seenV_zero (l : List Nat) (n : Nat) : seenV l n 0 = List.replicate n (Value.bool false) := by
  unfold seenV
  rw [List.take_zero]
  apply List.ext_getElem?
  intro t
  by_cases h : t < n
  · rw [List.getElem?_map, List.getElem?_range h, List.getElem?_replicate, if_pos h]; simp
  · rw [List.getElem?_eq_none (by simp; omega), List.getElem?_eq_none (by simp; omega)]
theorem seenV_at {l : List Nat} {n i x : Nat} (h : x < n) (hx : x ∉ l.take i) : (seenV l n i)[x]? = some (.bool false) := by
  unfold seenV
  rw [List.getElem?_map, List.getElem?_range h, Option.map_some, decide_eq_false hx]
theorem seenV_set {l : List Nat} {n i x : Nat} (h : x < n) (hx : l[i]? = some x) : (seenV l n i).toArray.setIfInBounds x (.bool true) = (seenV l n (i + 1)).toArray := by
  rw [List.setIfInBounds_toArray]
  congr 1
  apply List.ext_getElem?
  intro t
  rw [List.getElem?_set]
  by_cases ht : t < n
  · unfold seenV
    rw [List.getElem?_map, List.getElem?_map, List.getElem?_range ht, List.take_add_one, hx]
    by_cases e : x = t
    · subst e
      rw [if_pos rfl, if_pos (by simp; exact h)]
      simp
    · rw [if_neg e]
      have e' : t ≠ x := fun q => e q.symm
      simp [e']
  · have h1 : (seenV l n (i + 1))[t]? = none := List.getElem?_eq_none (by rw [seenV_len]; omega)
    have h2 : (seenV l n i)[t]? = none := List.getElem?_eq_none (by rw [seenV_len]; omega)
    rw [h1, if_neg (by omega), h2]
set_option maxRecDepth 100000 in
set_option maxHeartbeats 1000000 in
theorem Perm_any (A : Option Addr) (n c : Nat) (l : List Nat) (w : World) (hx : Rd w 1 A n ((l.map fun i : Nat => (i : Int)).map intV)) (hn : n ≤ 1000000) (hl : l.Perm (List.range n)) :
    Calls Try.prog 19 #[.slice A n c] w fun e w' => e = .returned (.bool true) ∧ Below w.heap.size w w' := by
  have hll : l.length = n := by have := hl.length_eq; rwa [List.length_range] at this
  have hnd : l.Nodup := hl.symm.nodup List.nodup_range
  have hmk := fun w => mkBools w n hn
  go_enter Try.func19, Try.ntmps19
  go_upto_region 2 with fail
  obtain ⟨w1, hw1⟩ : ∃ v, v = w.alloc (.cells (Array.replicate n (Value.bool false)) 4) := ⟨_, rfl⟩
  have hB1 : Below w.heap.size w w1 := by rw [hw1]; exact (Below.refl _ _).alloc (Nat.le_refl _) _
  have hX : Blk w1 w.heap.size 4 (seenV l n 0).toArray := by rw [hw1, seenV_zero, List.toArray_replicate]; exact Blk.new _ _ _
  rw [← hw1]
  have HX0 := Lib.hid hX
  have HB1 := Lib.hid hB1
  have Hx := Lib.hid hx
  have Hl := Lib.hid hl
  have Hll := Lib.hid hll
  have Hnd := Lib.hid hnd
  clear hw1 hX hB1 hx hl hll hnd hmk
  go_wp2_with fail
  go_loopw [4] (fun v4 wr => ∃ i : Nat, v4 = .int .i64 (i : Int) ∧ i ≤ n ∧ Blk wr w.heap.size 4 (seenV l n i).toArray ∧ Below w.heap.size w wr) (fun v4 _ => n - (intOf v4).toNat)
  case atStart => exact ⟨0, rfl, by omega, HX0.out, HB1.out⟩
  case round =>
    obtain ⟨i, rfl, hi, hS, hB⟩ := hrel
    have HS := Lib.hid hS
    have HB := Lib.hid hB
    have Hxr := Lib.hid (Hx.out.below hB)
    clear hS hB HX0 HB1
    by_cases hlt : i < n
    · have d0 : decide ((i : Int) < (n : Int)) = true := decide_eq_true (by omega)
      obtain ⟨x, hxi⟩ : ∃ x, l[i]? = some x := ⟨_, List.getElem?_eq_getElem (by have := Hll.out; omega)⟩
      have hxn : x < n := by have := (Hl.out.mem_iff (a := x)).1 (List.mem_of_getElem? hxi); exact List.mem_range.1 this
      have hnot : x ∉ l.take i := fun hm => by
        obtain ⟨t, ht, e⟩ := List.mem_iff_getElem.1 hm
        rw [List.length_take] at ht
        rw [List.getElem_take] at e
        have hil : i < l.length := by have := Hll.out; omega
        have e2 : l[i] = x := by rw [List.getElem?_eq_getElem hil] at hxi; exact Option.some.inj hxi
        exact (List.pairwise_iff_getElem.1 Hnd.out) t i (by omega) hil (by omega) (by rw [e, e2])
      obtain ⟨b, off, hAe, hc⟩ := Hxr.out.2.2 (by omega)
      subst hAe
      have gx : wr.cell? ⟨b, off + i, none⟩ = some (.int .i64 (x : Int)) := hc i _ (by rw [List.getElem?_map, List.getElem?_map, hxi]; rfl)
      have gs : wr.cell? ⟨w.heap.size, x, none⟩ = some (.bool false) := by rw [HS.out.cell, List.getElem?_toArray]; exact seenV_at hxn hnot
      have hset := seenV_set (l := l) hxn hxi
      have HE := Lib.hid (show Blk (wr.setCell ⟨w.heap.size, x, none⟩ (.bool true)) w.heap.size 4 (seenV l n (i + 1)).toArray from by rw [← hset]; exact heap_setCell_same wr w.heap.size x _ 4 (.bool true) HS.out)
      have HEB := Lib.hid (show Below w.heap.size w (wr.setCell ⟨w.heap.size, x, none⟩ (.bool true)) from Below.setCell HB.out (Nat.le_refl _) _)
      have frS := HS.out.frozen x
      have i1 : (i : Int) < (n : Int) := by omega
      have i0 : (0 : Int) ≤ (i : Int) := by omega
      have x1 : (x : Int) < (n : Int) := by omega
      have x0 : (0 : Int) ≤ (x : Int) := by omega
      have dn : decide ((x : Int) < 0) = false := decide_eq_false (by omega)
      have dg : decide ((x : Int) ≥ (n : Int)) = false := decide_eq_false (by omega)
      have dg2 : decide ((n : Int) ≤ (x : Int)) = false := decide_eq_false (by omega)
      have dg3 : decide (n ≤ x) = false := decide_eq_false (by omega)
      clear hxi hnot hc hset
      go_wp2_with fail
      exact ⟨⟨i + 1, by push_cast; rfl, by omega, HE.out, HEB.out⟩, by simp only [intOf]; omega⟩
    · have d0 : decide ((i : Int) < (n : Int)) = false := decide_eq_false (by omega)
      go_wp2_with fail
      go_ret
      exact ⟨rfl, HB.out⟩
end Go.Proofs.Ytcelkneeedebiaa
