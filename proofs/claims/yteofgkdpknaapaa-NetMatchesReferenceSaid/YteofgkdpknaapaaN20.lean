/- Package net: the reference's Send. -/
import Derived.Test.YteofgkdpknaapaaN19
namespace Go.Proofs.Yteofgkdpknaapaa
open Go.RowKit Go.Sort

theorem rd7_one {W : World} {B T : Nat} {x : Pv} (h : Blk W B T (pvC x).toArray) : Rd W 7 (some ⟨B, 0, none⟩) 1 ([x].flatMap pvC) := by
  have := h.rd (by rw [pvC_len]; omega)
  rw [pvC_len] at this
  rw [show [x].flatMap pvC = pvC x by simp]
  exact ⟨by rw [pvC_len], by omega, fun h0 => by
    obtain ⟨b, o, e, hc⟩ := this.2.2 (by omega)
    exact ⟨b, o, e, hc⟩⟩
set_option maxRecDepth 100000 in
set_option maxHeartbeats 1000000 in
theorem RSend_any (A : Option Addr) (n c : Nat) (ps : List Pk) (B : Option Addr) (m d : Nat) (qs : List Pk) (w : World) (h1 : PksAt w A n ps) (h2 : PksAt w B m qs) (hn : n ≤ 64) (hm : m ≤ 10000) :
    Calls Try.prog 21 #[netV A n c, .slice B m d] w (PksR (n + min m (64 - n)) (ps ++ qs.take (64 - n)) w) := by
  obtain ⟨i39, hi39, hz39, hs39, hy39⟩ := info_parts info39
  obtain ⟨d39, hd39, hrow39⟩ := und39
  obtain ⟨vs, ht, hp⟩ := h1
  obtain ⟨us, hu, hq⟩ := h2
  have hul := hu.1.lenf pvC_len (by omega)
  have hql : qs.length = m := PksAt.len ⟨us, hu, hq⟩
  obtain ⟨w1, hw1⟩ : ∃ q, q = (w.alloc (.cells #[.slice A n c] 30)).alloc (.cells #[.slice none 0 0] 30) := ⟨_, rfl⟩
  have hb1 : Below w.heap.size w w1 := by rw [hw1]; exact ((Below.refl _ _).alloc (Nat.le_refl _) _).alloc (by rw [World.size_alloc]; omega) _
  have hsz1 : w1.heap.size = w.heap.size + 1 + 1 := by rw [hw1, World.size_alloc, World.size_alloc]
  have hN1 : Blk w1 (w.heap.size + 1) 30 #[.slice none 0 0] := by
    rw [hw1]
    have h := Blk.new (w.alloc (.cells #[.slice A n c] 30)) 30 #[.slice none 0 0]
    rwa [World.size_alloc] at h
  have hX1 : Blk w1 w.heap.size 30 #[.slice A n c] := by
    rw [hw1]
    exact (Blk.new w 30 #[.slice A n c]).alloc _
  obtain ⟨w2, hw2⟩ : ∃ q, q = w1.alloc (.cells #[] 39) := ⟨_, rfl⟩
  have hb2 : Below w1.heap.size w1 w2 := by rw [hw2]; exact (Below.refl _ _).alloc (Nat.le_refl _) _
  have ha2 : AppZ w2 w1.heap.size 39 7 (.slice (some ⟨w1.heap.size, 0, none⟩) 0 0) 0 [] := by rw [hw2]; exact AppZ.empty w1 (Nat.le_refl _) _
  rw [hsz1] at ha2 hb2
  have hs2 : w.heap.size + 1 + 1 ≤ w2.heap.size := by have := hb2.size; omega
  have c1 : w2.cell? ⟨w.heap.size, 0, none⟩ = some (.slice A n c) := ((hX1.below hb2 (by omega)).cell 0).trans rfl
  have Ht := Lib.hid ht
  have Hu := Lib.hid hu
  have Hp := Lib.hid hp
  have Hq := Lib.hid hq
  have HW1 := Lib.hid hw1
  have HW2 := Lib.hid hw2
  have HB1 := Lib.hid hb1
  have HB2 := Lib.hid hb2
  have HN1 := Lib.hid hN1
  have HX1 := Lib.hid hX1
  have Ha2 := Lib.hid ha2
  clear ht hp hu hq hw1 hw2 hb1 hb2 hN1 hX1 ha2
  unfold netV
  go_enter Try.func21, Try.ntmps21
  go_upto_region 1 with fail
  rw [← HW1.out]
  have c0 : w1.cell? ⟨w.heap.size, 0, none⟩ = some (.slice A n c) := (HX1.out.cell 0).trans rfl
  go_upto_region 3 with (at_builtin; rw [← HW2.out]; refine wpList_appz rfl (.tmp 7) (.tmp 9) 28 rfl 39 i39 _ 7 120 Try.underlying28 hi39 hz39 hs39 hy39 rfl (by omega) (w.heap.size + 1 + 1) hs2 _ _ _ rfl Ha2.out A n c (vs.flatMap pvC) rfl ((Ht.out.1.below HB1.out).below (hsz1 ▸ HB2.out)) (pvs_one _) (by unfold maxLen; omega) (by omega) ?_; intro v' w3 ha3 hg3; obtain ⟨A3, k3, rfl, hk3, _⟩ := ha3.rd)
  have hb3 : Below (w.heap.size + 1 + 1) w1 w3 := HB2.out.trans ((Below.refl (w.heap.size + 1 + 1) w2).grown hg3 hs2 (fun g e => (Ha2.out.lt g e).1))
  rw [Nat.zero_add] at ha3 hk3
  rw [List.nil_append] at ha3
  have Ha3 := Lib.hid ha3
  have Hb3 := Lib.hid hb3
  clear ha3 hg3 hb3 c0 c1
  go_loopw [5, 6] (fun v5 v6 wr => ∃ j : Nat, v6 = .int .i64 (j : Int) ∧ j ≤ m ∧ n + j ≤ 64 ∧ AppZ wr (w.heap.size + 1 + 1) 39 7 v5 (n + j) ((vs ++ us.take j).flatMap pvC) ∧ Below (w.heap.size + 1 + 1) w1 wr) (fun _ v6 _ => m - (intOf v6).toNat)
  case atStart => exact ⟨0, rfl, Nat.zero_le _, hn, by rw [List.take_zero, List.append_nil]; exact Ha3.out, Hb3.out⟩
  case round =>
    obtain ⟨j, rfl, hj, hj64, happ, hBr⟩ := hrel
    obtain ⟨A5, k5, rfl, hk5, ht5⟩ := happ.trd7
    have Hf5 := Lib.hid (show ∀ b off, A5 = some ⟨b, off, none⟩ → w.heap.size ≤ b from fun b off e => by have := (happ.lt b (by rw [e]; rfl)).1; omega)
    have Happ := Lib.hid happ
    have HBr := Lib.hid hBr
    have Ht5 := Lib.hid ht5
    have hszr : w.heap.size + 1 + 1 ≤ wr.heap.size := by have := hBr.size; omega
    clear happ hBr ht5 Ha3 Hb3
    have stop : (¬ j < m ∨ ¬ n + j < 64) → n + j = n + min m (64 - n) ∧ (vs ++ us.take j) = (vs ++ us.take (min m (64 - n))) := fun h => by
      have : j = min m (64 - n) := by omega
      rw [← this]; exact ⟨rfl, rfl⟩
    have hfin : ∀ (wf : World), wf = wr → (¬ j < m ∨ ¬ n + j < 64) → Blk (wf.setCell ⟨w.heap.size + 1, 0, none⟩ (.slice A5 (n + j) k5)) (w.heap.size + 1) 30 #[.slice A5 (n + j) k5] ∧ PksR (n + min m (64 - n)) (ps ++ qs.take (64 - n)) w (.returned (netV A5 (n + j) k5)) (wf.setCell ⟨w.heap.size + 1, 0, none⟩ (.slice A5 (n + j) k5)) := fun wf e h => by
      subst e
      obtain ⟨e1, e2⟩ := stop h
      have hqm : qs.take (min m (64 - n)) = qs.take (64 - n) := by
        rcases Nat.le_total m (64 - n) with h | h
        · rw [Nat.min_eq_left h, List.take_of_length_le (by omega), List.take_of_length_le (by omega)]
        · rw [Nat.min_eq_right h]
      have hpf := ((Hp.out.below HB1.out).app ((Hq.out.below HB1.out).take (min m (64 - n)))).below (hsz1 ▸ HBr.out)
      have ht5 := Ht5.out
      rw [e2] at ht5
      rw [hqm] at hpf
      have := pks_store (c := k5) (HB1.out.trans (HBr.out.mono (by omega))) (Nat.le_succ _) (HN1.out.below HBr.out (by omega)) ht5 hpf hk5 Hf5.out
      rw [e1] at this ⊢
      exact this
    have Hfin := Lib.hid hfin
    have hN5 := HN1.out.below HBr.out (by omega)
    have c5 : wr.cell? ⟨w.heap.size + 1, 0, none⟩ = some (.slice none 0 0) := (hN5.cell 0).trans rfl
    have z5 := hN5.frozen 0
    clear hfin stop hN5
    by_cases hlt : j < m
    · have d1 : decide ((j : Int) < (m : Int)) = true := decide_eq_true (by omega)
      have hjn : (j : Int) < (m : Int) := by omega
      have hj0 : (0 : Int) ≤ (j : Int) := by omega
      by_cases h64 : n + j < 64
      · have d2 : decide ((n : Int) + (j : Int) < 64) = true := decide_eq_true (by omega)
        have d3 : (n : Int) + (j : Int) < 64 := by omega
        obtain ⟨u, hu⟩ : ∃ q, us[j]? = some q := ⟨_, List.getElem?_eq_getElem (by omega)⟩
        have hT := (Hu.out.below HB1.out).below (hsz1 ▸ HBr.out)
        obtain ⟨cb, co, hAe, _⟩ := hT.1.2.2 (by omega)
        have hrow : wr.rangeAt cb (co + j * 7) (pvC u) := rd_row pvC_len (by omega) (hAe ▸ hT.1) hu
        obtain ⟨w6, hw6⟩ : ∃ q, q = wr.alloc (.cells (pvC u).toArray 39) := ⟨_, rfl⟩
        have hb6 : Below wr.heap.size wr w6 := by rw [hw6]; exact (Below.refl _ _).alloc (Nat.le_refl _) _
        have hX6 : Blk w6 wr.heap.size 39 (pvC u).toArray := by rw [hw6]; exact Blk.new _ _ _
        have hr6 := rd7_one hX6
        have hs6 : w.heap.size + 1 + 1 ≤ w6.heap.size := by have := hb6.size; omega
        have Hrow := Lib.hid hrow
        have Hr6 := Lib.hid hr6
        have HW6 := Lib.hid hw6
        have Ha6 := Lib.hid (Happ.out.below hb6 (Nat.le_refl _))
        have Hb6 := Lib.hid (HBr.out.trans (hb6.mono hszr))
        have Htk := Lib.hid (show (vs ++ us.take (j + 1)).flatMap pvC = (vs ++ us.take j).flatMap pvC ++ [u].flatMap pvC by rw [List.take_add_one, hu, ← List.append_assoc, List.flatMap_append]; rfl)
        subst hAe
        clear hu hT hrow hw6 hb6 hX6 hr6 Hfin
        go_wp2_with (first | (refine wpList_load_mid rfl 39 (.tmp 25) rfl cb (co + j * 7) rfl (pvC u) d39 Hrow.out hd39 hrow39 (by rw [pvC_len]; kernel_rfl) ?_) | (refine wpList_build1s rfl 28 39 (.tmp 26) rfl (pvC u).toArray i39 _ 7 Try.underlying28 hi39 hz39 hs39 (by omega) (by decide) rfl rfl ?_; rw [← HW6.out]) | (at_builtin; refine wpList_appz rfl (.tmp 22) (.tmp 27) 28 rfl 39 i39 _ 7 120 Try.underlying28 hi39 hz39 hs39 hy39 rfl (by omega) (w.heap.size + 1 + 1) hs6 _ _ _ rfl Ha6.out (some ⟨wr.heap.size, 0, none⟩) 1 1 ([u].flatMap pvC) rfl Hr6.out (pvs_one _) (by unfold maxLen; omega) (by omega) ?_; intro v' w7 ha7 hg7))
        have hb7 : Below (w.heap.size + 1 + 1) w1 w7 := Hb6.out.trans ((Below.refl (w.heap.size + 1 + 1) w6).grown hg7 hs6 (fun g e => (Ha6.out.lt g e).1))
        refine ⟨⟨j + 1, by push_cast; rfl, by omega, by omega, ?_, hb7⟩, by simp only [intOf]; omega⟩
        rw [Htk.out]
        exact ha7
      · have d2 : decide ((n : Int) + (j : Int) < 64) = false := decide_eq_false (by omega)
        have d3 : ¬ (n : Int) + (j : Int) < 64 := by omega
        obtain ⟨hN6, hR6⟩ := Hfin.out wr rfl (.inr h64)
        have HN6 := Lib.hid hN6
        have HR6 := Lib.hid hR6
        obtain ⟨d30, hd30, hrow30⟩ := und30
        clear hN6 hR6 Hfin
        go_wp2_with fail
        exact bodyPost_ret (results_cell_row rfl _ _ (w.heap.size + 1) 30 _ (0, 0) _ rfl HN6.out hd30 (by cases d30 <;> first | rfl | (cases hrow30)) (size30 _ rfl)) rfl HR6.out
    · have d1 : decide ((j : Int) < (m : Int)) = false := decide_eq_false (by omega)
      have hjn : ¬ (j : Int) < (m : Int) := by omega
      obtain ⟨hN6, hR6⟩ := Hfin.out wr rfl (.inl hlt)
      have HN6 := Lib.hid hN6
      have HR6 := Lib.hid hR6
      obtain ⟨d30, hd30, hrow30⟩ := und30
      clear hN6 hR6 Hfin
      go_wp2_with fail
      exact bodyPost_ret (results_cell_row rfl _ _ (w.heap.size + 1) 30 _ (0, 0) _ rfl HN6.out hd30 (by cases d30 <;> first | rfl | (cases hrow30)) (size30 _ rfl)) rfl HR6.out
end Go.Proofs.Yteofgkdpknaapaa
