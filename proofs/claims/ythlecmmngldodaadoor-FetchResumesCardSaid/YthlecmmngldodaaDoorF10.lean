/- The reference of package fetch: Done. -/
import Derived.Test.YthlecmmngldodaaDoorF9
namespace Go.Proofs.YthlecmmngldodaaDoor
open Go.RowKit Go.Sort

theorem allB_succ {h : List (List UInt8)} {k : Nat} {x : List UInt8} (hx : h[k]? = some x) : allB (h.take (k + 1)) = (allB (h.take k) && !x.isEmpty) := by
  unfold allB
  rw [List.take_add_one, hx]; simp
theorem allB_no {h : List (List UInt8)} {k : Nat} {x : List UInt8} (hx : h[k]? = some x) (hn : x = []) : allB h = false := by
  cases ha : allB h with
  | false => rfl
  | true =>
    unfold allB at ha
    have := List.all_eq_true.1 ha x (List.mem_of_getElem? hx)
    rw [hn] at this; cases this

set_option maxRecDepth 100000 in
set_option maxHeartbeats 1000000 in
theorem RDone_any (tr : Sum32) (A : Option Addr) (n c : Nat) (h : List (List UInt8)) (w : World) (hL : Lst w A n h) (hn : n ≤ 1000000) (hs : h.flatten.length ≤ 1000000000) :
    Calls Tryd.prog 25 #[.agg (fetchC tr A n c).toArray] w fun e w' => ∃ A' c', e = .returned (.tuple #[.slice A' (doneL h).length c', .int .i64 (doneE h)]) ∧ Rd w' 1 A' (doneL h).length ((doneL h).map byteV) ∧ Below w.heap.size w w' := by
  obtain ⟨i0, hi0, hz0, hz1, hz2⟩ := info_parts info5
  have hl := hL.len
  have hB : Below w.heap.size w (w.alloc (.cells (fetchC tr A n c).toArray 35)) := (Below.refl _ _).alloc (Nat.le_refl _) _
  have hC : Blk (w.alloc (.cells (fetchC tr A n c).toArray 35)) w.heap.size 35 (fetchC tr A n c).toArray := Blk.new _ _ _
  obtain ⟨E, hE⟩ : ∃ E, E = doneE h := ⟨_, rfl⟩
  obtain ⟨D, hD⟩ : ∃ D, D = doneL h := ⟨_, rfl⟩
  rw [← hE, ← hD]
  have HE := Lib.hid hE
  have HD := Lib.hid hD
  have Hfl := Lib.hid (flat_le h)
  clear hE hD
  go_enter Tryd.func25, Tryd.ntmps25
  go_upto_region 1 with fail
  obtain ⟨w1, hw1⟩ : ∃ w1, w1 = w.alloc (.cells (fetchC tr A n c).toArray 35) := ⟨_, rfl⟩
  rw [← hw1] at hC hB ⊢
  clear hw1
  have hc : ∀ W, Below w1.heap.size w1 W → W.cell? ⟨w.heap.size, 32, none⟩ = some (.slice A n c) := fun W hW => by
    rw [(hC.below hW hC.lt).cell]; exact fetchC_have tr A n c
  have hs1 := hC.lt
  have HL1 := Lib.hid (hL.below hB)
  have Hc := Lib.hid hc
  have HB := Lib.hid hB
  clear hc hB hC hL
  go_wp2_with fail
  go_loopw [4, 5] (fun v4 v5 wr => ∃ k : Nat, k ≤ n ∧ v5 = .int .i64 (k : Int) ∧ App wr w1.heap.size 5 v4 (h.take k).flatten.length ((h.take k).flatten.map byteV) ∧ allB (h.take k) = true ∧ Below w1.heap.size w1 wr) (fun _ v5 _ => n - (intOf v5).toNat)
  case atStart => exact ⟨0, by omega, rfl, .inl ⟨rfl, rfl, _, rfl⟩, rfl, (Below.refl _ _).alloc (Nat.le_refl _) _⟩
  case round =>
    obtain ⟨k, hk, rfl, happ, hall, hB1⟩ := hrel
    have c1 := Hc.out wr hB1
    have hsz := hB1.size
    by_cases hlt : k < n
    · obtain ⟨b, off, v, x, rfl, hx, cx, hrx, _⟩ := (HL1.out.below hB1).at_ hlt
      have hvn := hrx.len1
      have hvl := hrx.le
      by_cases he : v.n = 0
      · obtain rfl : x = [] := List.eq_nil_of_length_eq_zero (by omega)
        have ha := allB_no hx rfl
        have hEv : E = 4 := by rw [HE.out]; unfold doneE; rw [ha]; rfl
        have hDv : D = [] := by rw [HD.out]; unfold doneL; rw [ha]; rfl
        have HEv := Lib.hid hEv
        have HDv := Lib.hid hDv
        have HB1 := Lib.hid hB1
        have hvi : ((v.n : Int) == 0) = true := by rw [beq_iff_eq]; omega
        clear hEv hDv hx hrx hvn happ hall ha hB1
        go_wp2_with fail
        go_ret2
        exact ⟨none, 0, by rw [HEv.out, HDv.out]; rfl, by rw [HDv.out]; exact Rd.nil _ _ _, HB.out.trans (HB1.out.mono (by omega))⟩
      · have hf := flat_succ hx
        have h1 := Hfl.out (k + 1)
        have hfl2 : (h.take (k + 1)).flatten.length = (h.take k).flatten.length + v.n := by rw [hf, List.length_append, hvn]
        have hfm : (h.take (k + 1)).flatten.map byteV = (h.take k).flatten.map byteV ++ x.map byteV := by rw [hf, List.map_append]
        have hal : allB (h.take (k + 1)) = true := by
          rw [allB_succ hx, hall]
          cases x with
          | nil => exact absurd hvn.symm (by simpa using he)
          | cons a t => rfl
        rw [hfl2] at h1
        have hone := oneB x
        have Happ := Lib.hid happ
        have HB1 := Lib.hid hB1
        have Hrx := Lib.hid hrx
        have Hfl2 := Lib.hid hfl2
        have Hfm := Lib.hid hfm
        have Hone := Lib.hid hone
        have Hal := Lib.hid hal
        have hvi : ((v.n : Int) == 0) = false := by rw [beq_eq_false_iff_ne]; omega
        have hsb : (h.take k).flatten.length + v.n ≤ 1000000000 := by omega
        clear happ hB1 hrx hfl2 hfm hvn hf hx hone hal hall h1 hs
        generalize (h.take k).flatten.length = S at *
        generalize (h.take k).flatten.map byteV = SB at *
        go_wp2_with (at_builtin; go_loud (refine wpList_app rfl (.tmp 21) (.tmp 26) 22 rfl 5 i0 (.int .u8 0) 1 Tryd.underlying22 hi0 hz0 hz1 hz2 rfl w1.heap.size (by omega) _ _ _ rfl Happ.out v.a v.n v.c (x.map byteV) rfl Hrx.out Hone.out (by unfold maxLen; omega) (by omega) ?_; intro v1 w3 happ1 hb1))
        exact ⟨⟨k + 1, by omega, by go_num, by rw [Hfl2.out, Hfm.out]; exact happ1, Hal.out, HB1.out.trans hb1⟩, by simp [intOf]; omega⟩
    · obtain rfl : k = n := by omega
      have ht : h.take k = h := List.take_of_length_le (by omega)
      rw [ht] at happ hall
      have hEv : E = 0 := by rw [HE.out]; unfold doneE; rw [if_pos hall]
      have hDv : D = h.flatten := by rw [HD.out]; unfold doneL; rw [if_pos hall]
      rw [← hDv] at happ
      obtain ⟨A', c', rfl, hc', hR⟩ := happ.rd
      have HEv := Lib.hid hEv
      have HR := Lib.hid hR
      have HB1 := Lib.hid hB1
      clear hR hB1 happ ht hEv hDv hall hs
      go_wp2_with fail
      go_ret2
      exact ⟨A', c', by rw [HEv.out]; rfl, HR.out, HB.out.trans (HB1.out.mono (by omega))⟩
end Go.Proofs.YthlecmmngldodaaDoor
