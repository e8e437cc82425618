/- Package sign and its reference: what is valid, what is formed. -/
import Derived.Test.YtfdhiilhjfbehaaDoorS1
namespace Go.Proofs.YtfdhiilhjfbehaaDoor
open Go.RowKit Go.Sort

def secV (k : Sc) : List Value := sumC k.s ++ [.int .i64 k.h, .int .i64 k.n]
theorem secV_len (k : Sc) : (secV k).length = 34 := by unfold secV; rw [List.length_append, sumC_len]; rfl
theorem sec_seed (k : Sc) {j : Nat} {v : Value} (hv : (sumC k.s)[j]? = some v) : (secV k)[j]? = some v := by
  unfold secV
  rw [List.getElem?_append_left (List.getElem?_eq_some_iff.1 hv).1, hv]
theorem sec_h (k : Sc) : (secV k)[32]? = some (.int .i64 k.h) := by
  unfold secV
  rw [List.getElem?_append_right (by rw [sumC_len]; exact Nat.le_refl _), sumC_len]; rfl
theorem sec_n (k : Sc) : (secV k)[33]? = some (.int .i64 k.n) := by
  unfold secV
  rw [List.getElem?_append_right (by rw [sumC_len]; omega), sumC_len]; rfl
theorem sec_one (k : Sc) : (secV k).toArray.all (·.oneCell') = true := all_oneCell_toArray fun v hv => by
  unfold secV at hv
  rw [List.mem_append] at hv
  rcases hv with hv | hv
  · exact oneB _ v hv
  · simp only [List.mem_cons, List.not_mem_nil, or_false] at hv
    rcases hv with rfl | rfl <;> rfl
def sgV (i : Int) (A : Option Addr) (n c : Nat) (B : Option Addr) (m d : Nat) : List Value := [.int .i64 i, .slice A n c, .slice B m d]
theorem sgV_len (i : Int) (A : Option Addr) (n c : Nat) (B : Option Addr) (m d : Nat) : (sgV i A n c B m d).length = 3 := rfl
theorem sg_one (i : Int) (A : Option Addr) (n c : Nat) (B : Option Addr) (m d : Nat) : (sgV i A n c B m d).toArray.all (·.oneCell') = true := all_oneCell_toArray fun v hv => by
  simp only [sgV, List.mem_cons, List.not_mem_nil, or_false] at hv
  rcases hv with rfl | rfl | rfl <;> rfl
theorem info28 : (Tryd.prog.info? 28).map (fun i => (i.zero, i.size, i.bytes)) = some (some (.agg (secV sc0).toArray), 34, 48) := by kernel_rfl
theorem size28 (cs : Array Value) (h : cs.size = 34) : (Tryd.prog.info? 28).map (·.size) = some cs.size := by rw [h]; kernel_rfl
theorem und28 : ∃ d, Tryd.prog.underlying 28 = some d ∧ d.isRow = true := by
  obtain ⟨d, h1, h2⟩ := Option.map_eq_some_iff.1 (show (Tryd.prog.underlying 28).map (·.isRow) = some true by kernel_rfl)
  exact ⟨d, h1, h2⟩
theorem info37 : (Tryd.prog.info? 37).map (fun i => (i.zero, i.size, i.bytes)) = some (some (.agg (sgV 0 none 0 0 none 0 0).toArray), 3, 56) := by kernel_rfl
theorem size37 (cs : Array Value) (h : cs.size = 3) : (Tryd.prog.info? 37).map (·.size) = some cs.size := by rw [h]; kernel_rfl
theorem und37 : ∃ d, Tryd.prog.underlying 37 = some d ∧ d.isRow = true := by
  obtain ⟨d, h1, h2⟩ := Option.map_eq_some_iff.1 (show (Tryd.prog.underlying 37).map (·.isRow) = some true by kernel_rfl)
  exact ⟨d, h1, h2⟩
theorem pow5 {h : Int} (h0 : 0 ≤ h) (h4 : h ≤ 4) : h = 0 ∨ h = 1 ∨ h = 2 ∨ h = 3 ∨ h = 4 := by omega
theorem pow5n {h : Nat} (h4 : h ≤ 4) : h = 0 ∨ h = 1 ∨ h = 2 ∨ h = 3 ∨ h = 4 := by omega
def formB (i : Int) (n m : Nat) : Bool := decide (n = 67 ∧ m ≤ 4 ∧ 0 ≤ i ∧ i < 2 ^ m)

set_option maxRecDepth 100000 in
set_option maxHeartbeats 2000000 in
theorem valid_any (k : Sc) (w : World) : Calls Tryd.prog 35 #[.agg (secV k).toArray] w fun e w' => e = .returned (.bool (validS k)) ∧ Below w.heap.size w w' := by
  have h32 := sec_h k
  have h33 := sec_n k
  obtain ⟨R, hR⟩ : ∃ R, R = validS k := ⟨_, rfl⟩
  rw [← hR]
  have hR' : R = decide (0 ≤ k.h ∧ k.h ≤ 4 ∧ 0 ≤ k.n ∧ k.n ≤ 2 ^ k.h.toNat) := hR
  clear hR
  obtain ⟨s, h, n⟩ := k
  simp only at h32 h33 hR'
  go_enter Tryd.func35, Tryd.ntmps35
  go_upto_region 1 with fail
  obtain ⟨w1, hw1⟩ : ∃ v, v = w.alloc (.cells (secV ⟨s, h, n⟩).toArray 28) := ⟨_, rfl⟩
  have hB : Below w.heap.size w w1 := by rw [hw1]; exact (Below.refl _ _).alloc (Nat.le_refl _) _
  have hC : Blk w1 w.heap.size 28 (secV ⟨s, h, n⟩).toArray := by rw [hw1]; exact Blk.new _ _ _
  rw [← hw1]
  clear hw1
  have c1 : w1.cell? ⟨w.heap.size, 32, none⟩ = some (.int .i64 h) := by rw [hC.cell, List.getElem?_toArray]; exact h32
  have c2 : w1.cell? ⟨w.heap.size, 33, none⟩ = some (.int .i64 n) := by rw [hC.cell, List.getElem?_toArray]; exact h33
  clear hC h32 h33
  have HB := Lib.hid hB
  have HR := Lib.hid hR'
  clear hB hR'
  by_cases h0 : 0 ≤ h
  rotate_left
  · have d0 : decide ((0 : Int) ≤ h) = false := decide_eq_false h0
    have Hr := Lib.hid (show R = false by rw [HR.out]; exact decide_eq_false (fun x => h0 x.1))
    go_quiet (fail)
    go_wp2_with fail
    go_ret
    exact ⟨by rw [Hr.out]; rfl, below_drewN HB.out _⟩
  have d0 : decide ((0 : Int) ≤ h) = true := decide_eq_true h0
  by_cases h4 : h ≤ 4
  rotate_left
  · have d1 : decide (h ≤ (4 : Int)) = false := decide_eq_false h4
    have Hr := Lib.hid (show R = false by rw [HR.out]; exact decide_eq_false (fun x => h4 x.2.1))
    go_quiet (fail)
    go_wp2_with fail
    go_ret
    exact ⟨by rw [Hr.out]; rfl, below_drewN HB.out _⟩
  have d1 : decide (h ≤ (4 : Int)) = true := decide_eq_true h4
  by_cases n0 : 0 ≤ n
  rotate_left
  · have d2 : decide ((0 : Int) ≤ n) = false := decide_eq_false n0
    have Hr := Lib.hid (show R = false by rw [HR.out]; exact decide_eq_false (fun x => n0 x.2.2.1))
    go_quiet (fail)
    go_wp2_with fail
    go_ret
    exact ⟨by rw [Hr.out]; rfl, below_drewN HB.out _⟩
  have d2 : decide ((0 : Int) ≤ n) = true := decide_eq_true n0
  have Hr := Lib.hid (show R = decide (n ≤ 2 ^ h.toNat) by rw [HR.out]; simp [h0, h4, n0])
  clear HR
  rcases pow5 h0 h4 with rfl | rfl | rfl | rfl | rfl <;>
  · clear h0 h4 n0
    go_quiet (fail)
    go_wp2_with fail
    go_ret
    exact ⟨by rw [Hr.out]; rfl, below_drewN HB.out _⟩
set_option maxRecDepth 100000 in
set_option maxHeartbeats 2000000 in
theorem RValid_any (k : Sc) (w : World) : Calls Tryd.prog 25 #[.agg (secV k).toArray] w fun e w' => e = .returned (.bool (validS k)) ∧ Below w.heap.size w w' := by
  have h32 := sec_h k
  have h33 := sec_n k
  obtain ⟨R, hR⟩ : ∃ R, R = validS k := ⟨_, rfl⟩
  rw [← hR]
  have hR' : R = decide (0 ≤ k.h ∧ k.h ≤ 4 ∧ 0 ≤ k.n ∧ k.n ≤ 2 ^ k.h.toNat) := hR
  clear hR
  obtain ⟨s, h, n⟩ := k
  simp only at h32 h33 hR'
  go_enter Tryd.func25, Tryd.ntmps25
  go_upto_region 1 with fail
  obtain ⟨w1, hw1⟩ : ∃ v, v = w.alloc (.cells (secV ⟨s, h, n⟩).toArray 28) := ⟨_, rfl⟩
  have hB : Below w.heap.size w w1 := by rw [hw1]; exact (Below.refl _ _).alloc (Nat.le_refl _) _
  have hC : Blk w1 w.heap.size 28 (secV ⟨s, h, n⟩).toArray := by rw [hw1]; exact Blk.new _ _ _
  rw [← hw1]
  clear hw1
  have c1 : w1.cell? ⟨w.heap.size, 32, none⟩ = some (.int .i64 h) := by rw [hC.cell, List.getElem?_toArray]; exact h32
  have c2 : w1.cell? ⟨w.heap.size, 33, none⟩ = some (.int .i64 n) := by rw [hC.cell, List.getElem?_toArray]; exact h33
  clear hC h32 h33
  have HB := Lib.hid hB
  have HR := Lib.hid hR'
  clear hB hR'
  by_cases h0 : 0 ≤ h
  rotate_left
  · have d0 : decide ((0 : Int) ≤ h) = false := decide_eq_false h0
    have Hr := Lib.hid (show R = false by rw [HR.out]; exact decide_eq_false (fun x => h0 x.1))
    go_quiet (fail)
    go_wp2_with fail
    go_ret
    exact ⟨by rw [Hr.out]; rfl, below_drewN HB.out _⟩
  have d0 : decide ((0 : Int) ≤ h) = true := decide_eq_true h0
  by_cases h4 : h ≤ 4
  rotate_left
  · have d1 : decide (h ≤ (4 : Int)) = false := decide_eq_false h4
    have Hr := Lib.hid (show R = false by rw [HR.out]; exact decide_eq_false (fun x => h4 x.2.1))
    go_quiet (fail)
    go_wp2_with fail
    go_ret
    exact ⟨by rw [Hr.out]; rfl, below_drewN HB.out _⟩
  have d1 : decide (h ≤ (4 : Int)) = true := decide_eq_true h4
  by_cases n0 : 0 ≤ n
  rotate_left
  · have d2 : decide ((0 : Int) ≤ n) = false := decide_eq_false n0
    have Hr := Lib.hid (show R = false by rw [HR.out]; exact decide_eq_false (fun x => n0 x.2.2.1))
    go_quiet (fail)
    go_wp2_with fail
    go_ret
    exact ⟨by rw [Hr.out]; rfl, below_drewN HB.out _⟩
  have d2 : decide ((0 : Int) ≤ n) = true := decide_eq_true n0
  have Hr := Lib.hid (show R = decide (n ≤ 2 ^ h.toNat) by rw [HR.out]; simp [h0, h4, n0])
  clear HR
  rcases pow5 h0 h4 with rfl | rfl | rfl | rfl | rfl <;>
  · clear h0 h4 n0
    go_quiet (fail)
    go_wp2_with fail
    go_ret
    exact ⟨by rw [Hr.out]; rfl, below_drewN HB.out _⟩
set_option maxRecDepth 100000 in
set_option maxHeartbeats 2000000 in
theorem formed_any (i : Int) (A : Option Addr) (n c : Nat) (B : Option Addr) (m d : Nat) (w : World) : Calls Tryd.prog 42 #[.agg (sgV i A n c B m d).toArray] w fun e w' => e = .returned (.bool (formB i n m)) ∧ Below w.heap.size w w' := by
  obtain ⟨R, hR⟩ : ∃ R, R = formB i n m := ⟨_, rfl⟩
  rw [← hR]
  have hR' : R = decide (n = 67 ∧ m ≤ 4 ∧ 0 ≤ i ∧ i < 2 ^ m) := hR
  clear hR
  go_enter Tryd.func42, Tryd.ntmps42
  go_upto_region 1 with fail
  obtain ⟨w1, hw1⟩ : ∃ v, v = w.alloc (.cells (sgV i A n c B m d).toArray 37) := ⟨_, rfl⟩
  have hB : Below w.heap.size w w1 := by rw [hw1]; exact (Below.refl _ _).alloc (Nat.le_refl _) _
  have hC : Blk w1 w.heap.size 37 (sgV i A n c B m d).toArray := by rw [hw1]; exact Blk.new _ _ _
  rw [← hw1]
  clear hw1
  have c0 : w1.cell? ⟨w.heap.size, 0, none⟩ = some (.int .i64 i) := by rw [hC.cell]; rfl
  have c1 : w1.cell? ⟨w.heap.size, 1, none⟩ = some (.slice A n c) := by rw [hC.cell]; rfl
  have c2 : w1.cell? ⟨w.heap.size, 2, none⟩ = some (.slice B m d) := by rw [hC.cell]; rfl
  clear hC
  have HB := Lib.hid hB
  have HR := Lib.hid hR'
  clear hB hR'
  by_cases h0 : n = 67
  rotate_left
  · have d0 : ((n : Int) == 67) = false := by rw [beq_eq_false_iff_ne]; omega
    have d1 : (n == 67) = false := by rw [beq_eq_false_iff_ne]; exact h0
    have Hr := Lib.hid (show R = false by rw [HR.out]; exact decide_eq_false (fun x => h0 x.1))
    go_quiet (fail)
    go_wp2_with fail
    go_ret
    exact ⟨by rw [Hr.out]; rfl, below_drewN HB.out _⟩
  subst h0
  by_cases h4 : m ≤ 4
  rotate_left
  · have d1 : decide ((m : Int) ≤ (4 : Int)) = false := decide_eq_false (by omega)
    have d2 : decide (m ≤ 4) = false := decide_eq_false h4
    have Hr := Lib.hid (show R = false by rw [HR.out]; exact decide_eq_false (fun x => h4 x.2.1))
    go_quiet (fail)
    go_wp2_with fail
    go_ret
    exact ⟨by rw [Hr.out]; rfl, below_drewN HB.out _⟩
  have d1 : decide ((m : Int) ≤ (4 : Int)) = true := decide_eq_true (by omega)
  by_cases n0 : 0 ≤ i
  rotate_left
  · have d2 : decide ((0 : Int) ≤ i) = false := decide_eq_false n0
    have Hr := Lib.hid (show R = false by rw [HR.out]; exact decide_eq_false (fun x => n0 x.2.2.1))
    go_quiet (fail)
    go_wp2_with fail
    go_ret
    exact ⟨by rw [Hr.out]; rfl, below_drewN HB.out _⟩
  have d2 : decide ((0 : Int) ≤ i) = true := decide_eq_true n0
  have Hr := Lib.hid (show R = decide (i < 2 ^ m) by rw [HR.out]; simp [h4, n0])
  clear HR
  rcases pow5n h4 with rfl | rfl | rfl | rfl | rfl <;>
  · clear h4 n0 d1
    go_quiet (fail)
    go_wp2_with fail
    go_ret
    exact ⟨by rw [Hr.out]; rfl, below_drewN HB.out _⟩
set_option maxRecDepth 100000 in
set_option maxHeartbeats 2000000 in
theorem RFormed_any (i : Int) (A : Option Addr) (n c : Nat) (B : Option Addr) (m d : Nat) (w : World) : Calls Tryd.prog 22 #[.agg (sgV i A n c B m d).toArray] w fun e w' => e = .returned (.bool (formB i n m)) ∧ Below w.heap.size w w' := by
  obtain ⟨R, hR⟩ : ∃ R, R = formB i n m := ⟨_, rfl⟩
  rw [← hR]
  have hR' : R = decide (n = 67 ∧ m ≤ 4 ∧ 0 ≤ i ∧ i < 2 ^ m) := hR
  clear hR
  go_enter Tryd.func22, Tryd.ntmps22
  go_upto_region 1 with fail
  obtain ⟨w1, hw1⟩ : ∃ v, v = w.alloc (.cells (sgV i A n c B m d).toArray 37) := ⟨_, rfl⟩
  have hB : Below w.heap.size w w1 := by rw [hw1]; exact (Below.refl _ _).alloc (Nat.le_refl _) _
  have hC : Blk w1 w.heap.size 37 (sgV i A n c B m d).toArray := by rw [hw1]; exact Blk.new _ _ _
  rw [← hw1]
  clear hw1
  have c0 : w1.cell? ⟨w.heap.size, 0, none⟩ = some (.int .i64 i) := by rw [hC.cell]; rfl
  have c1 : w1.cell? ⟨w.heap.size, 1, none⟩ = some (.slice A n c) := by rw [hC.cell]; rfl
  have c2 : w1.cell? ⟨w.heap.size, 2, none⟩ = some (.slice B m d) := by rw [hC.cell]; rfl
  clear hC
  have HB := Lib.hid hB
  have HR := Lib.hid hR'
  clear hB hR'
  by_cases h0 : n = 67
  rotate_left
  · have d0 : ((n : Int) == 67) = false := by rw [beq_eq_false_iff_ne]; omega
    have d1 : (n == 67) = false := by rw [beq_eq_false_iff_ne]; exact h0
    have Hr := Lib.hid (show R = false by rw [HR.out]; exact decide_eq_false (fun x => h0 x.1))
    go_quiet (fail)
    go_wp2_with fail
    go_ret
    exact ⟨by rw [Hr.out]; rfl, below_drewN HB.out _⟩
  subst h0
  by_cases h4 : m ≤ 4
  rotate_left
  · have d1 : decide ((m : Int) ≤ (4 : Int)) = false := decide_eq_false (by omega)
    have d2 : decide (m ≤ 4) = false := decide_eq_false h4
    have Hr := Lib.hid (show R = false by rw [HR.out]; exact decide_eq_false (fun x => h4 x.2.1))
    go_quiet (fail)
    go_wp2_with fail
    go_ret
    exact ⟨by rw [Hr.out]; rfl, below_drewN HB.out _⟩
  have d1 : decide ((m : Int) ≤ (4 : Int)) = true := decide_eq_true (by omega)
  by_cases n0 : 0 ≤ i
  rotate_left
  · have d2 : decide ((0 : Int) ≤ i) = false := decide_eq_false n0
    have Hr := Lib.hid (show R = false by rw [HR.out]; exact decide_eq_false (fun x => n0 x.2.2.1))
    go_quiet (fail)
    go_wp2_with fail
    go_ret
    exact ⟨by rw [Hr.out]; rfl, below_drewN HB.out _⟩
  have d2 : decide ((0 : Int) ≤ i) = true := decide_eq_true n0
  have Hr := Lib.hid (show R = decide (i < 2 ^ m) by rw [HR.out]; simp [h4, n0])
  clear HR
  rcases pow5n h4 with rfl | rfl | rfl | rfl | rfl <;>
  · clear h4 n0 d1
    go_quiet (fail)
    go_wp2_with fail
    go_ret
    exact ⟨by rw [Hr.out]; rfl, below_drewN HB.out _⟩
end Go.Proofs.YtfdhiilhjfbehaaDoor
