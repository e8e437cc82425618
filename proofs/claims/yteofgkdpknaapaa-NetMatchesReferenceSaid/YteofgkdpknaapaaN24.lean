/- Package net: the reference's Same and SameNet. -/
import Derived.Test.YteofgkdpknaapaaN23
namespace Go.Proofs.Yteofgkdpknaapaa
open Go.RowKit Go.Sort

/-- Packets that the laws compare. -/
def okP (p : Pk) : Prop := p.proof.length ≤ 8 ∧ p.sigs.length ≤ 16 ∧ ∀ x ∈ p.sigs, goodK x = true
theorem okP0 : okP pk0 := ⟨by simp [pk0], by simp [pk0], by simp [pk0]⟩
theorem okP_of {p : Pk} (h : validP p = true) : okP p := by
  unfold validP at h
  rw [Bool.and_eq_true] at h
  have h2 := h.2
  have nometa : noMeta p = true → p.sigs = [] := fun h => by unfold noMeta at h; simp at h; exact h.2
  have nodata : noData p = true → p.proof = [] := fun h => by unfold noData at h; simp at h; exact h.2
  by_cases k1 : p.kind = 1
  · rw [if_pos k1] at h2
    simp only [Bool.and_eq_true] at h2
    refine ⟨by rw [nodata h2.1.2]; simp, by rw [nometa h2.2]; simp, by rw [nometa h2.2]; simp⟩
  rw [if_neg k1] at h2
  by_cases k2 : p.kind = 2
  · rw [if_pos k2] at h2
    simp only [Bool.and_eq_true, signedP, decide_eq_true_eq, List.all_eq_true] at h2
    exact ⟨by rw [nodata h2.1.2]; simp, h2.2.1.2, h2.2.2⟩
  rw [if_neg k2] at h2
  by_cases k3 : p.kind = 3
  · rw [if_pos k3] at h2
    simp only [Bool.and_eq_true] at h2
    refine ⟨by rw [nodata h2.1.2]; simp, by rw [nometa h2.2]; simp, by rw [nometa h2.2]; simp⟩
  rw [if_neg k3] at h2
  by_cases k4 : p.kind = 4
  · rw [if_pos k4] at h2
    simp only [Bool.and_eq_true, decide_eq_true_eq] at h2
    exact ⟨h2.1.2.2, by rw [nometa h2.2]; simp, by rw [nometa h2.2]; simp⟩
  rw [if_neg k4] at h2
  cases h2
theorem pk_ext {x y : Pk} : x = y ↔ x.kind = y.kind ∧ x.who = y.who ∧ x.n = y.n ∧ x.data = y.data ∧ x.proof = y.proof ∧ x.body = y.body ∧ x.sigs = y.sigs := by cases x; cases y; simp
theorem signed_row {W : World} {g : Nat} {v : Pv} (h : Blk W g 39 (pvC v).toArray) : W.rangeAt g 5 (sdC v.B v.bn v.bc v.S v.sn v.sc) := fun q u hq => by
  have h := h.cell (5 + q)
  rw [h, ← hq, Nat.add_comm, List.getElem?_toArray]
  rfl
theorem und37r : ∃ d, Try.prog.underlying 37 = some d ∧ d.isRow = true := by
  obtain ⟨d, h1, h2⟩ := Option.map_eq_some_iff.1 (show (Try.prog.underlying 37).map (·.isRow) = some true by kernel_rfl)
  exact ⟨d, h1, h2⟩
set_option maxRecDepth 100000 in
set_option maxHeartbeats 2000000 in
theorem Same_any (v u : Pv) (p q : Pk) (w : World) (hp : PvOk w v p) (hq : PvOk w u q) (op : okP p) (oq : okP q) :
    Calls Try.prog 18 #[.agg (pvC v).toArray, .agg (pvC u).toArray] w fun e w' => e = .returned (.bool (decide (p = q))) ∧ Below w.heap.size w w' := by
  obtain ⟨R, hR⟩ : ∃ R, R = decide (p = q) := ⟨_, rfl⟩
  rw [← hR]
  have HR := Lib.hid hR
  clear hR
  obtain ⟨w1, hw1⟩ : ∃ x, x = (w.alloc (.cells (pvC v).toArray 39)).alloc (.cells (pvC u).toArray 39) := ⟨_, rfl⟩
  have hB1 : Below w.heap.size w w1 := by rw [hw1]; exact ((Below.refl _ _).alloc (Nat.le_refl _) _).alloc (by simp) _
  have hX1 : Blk w1 w.heap.size 39 (pvC v).toArray := by rw [hw1]; exact (Blk.new _ _ _).alloc _
  have hY1 : Blk w1 (w.heap.size + 1) 39 (pvC u).toArray := by
    have := Blk.new (w.alloc (.cells (pvC v).toArray 39)) 39 (pvC u).toArray
    rw [World.size_alloc] at this
    rw [hw1]; exact this
  have x0 : w1.cell? ⟨w.heap.size, 0, none⟩ = some (.int .i64 v.k) := (hX1.cell 0).trans rfl
  have x1 : w1.cell? ⟨w.heap.size, 1, none⟩ = some (.int .i64 v.u) := (hX1.cell 1).trans rfl
  have x2 : w1.cell? ⟨w.heap.size, 2, none⟩ = some (.int .i64 v.n) := (hX1.cell 2).trans rfl
  have x3 : w1.cell? ⟨w.heap.size, 3, none⟩ = some (.slice v.D v.dn v.dc) := (hX1.cell 3).trans rfl
  have x4 : w1.cell? ⟨w.heap.size, 4, none⟩ = some (.slice v.P v.pn v.pc) := (hX1.cell 4).trans rfl
  have y0 : w1.cell? ⟨w.heap.size + 1, 0, none⟩ = some (.int .i64 u.k) := (hY1.cell 0).trans rfl
  have y1 : w1.cell? ⟨w.heap.size + 1, 1, none⟩ = some (.int .i64 u.u) := (hY1.cell 1).trans rfl
  have y2 : w1.cell? ⟨w.heap.size + 1, 2, none⟩ = some (.int .i64 u.n) := (hY1.cell 2).trans rfl
  have y3 : w1.cell? ⟨w.heap.size + 1, 3, none⟩ = some (.slice u.D u.dn u.dc) := (hY1.cell 3).trans rfl
  have y4 : w1.cell? ⟨w.heap.size + 1, 4, none⟩ = some (.slice u.P u.pn u.pc) := (hY1.cell 4).trans rfl
  have hcx := convert_bytes v.D v.dn v.dc p.data w1 (hp.below hB1).2.2.1.1
  have hcy := convert_bytes u.D u.dn u.dc q.data w1 (hq.below hB1).2.2.1.1
  have hsb := str_beq p.data q.data
  have HW1 := Lib.hid hw1
  have HX := Lib.hid hX1
  have HY := Lib.hid hY1
  have HB := Lib.hid hB1
  have HP := Lib.hid (hp.below hB1)
  have HQ := Lib.hid (hq.below hB1)
  have hlp := hp.lens
  have hlq := hq.lens
  obtain ⟨vk, vu, vn⟩ := hp.1
  obtain ⟨uk, uu, un⟩ := hq.1
  have Hv := Lib.hid (show v.k = p.kind ∧ v.u = p.who ∧ v.n = p.n from ⟨vk, vu, vn⟩)
  have Hu := Lib.hid (show u.k = q.kind ∧ u.u = q.who ∧ u.n = q.n from ⟨uk, uu, un⟩)
  clear hw1 hX1 hY1 hB1 hp hq vk vu vn uk uu un
  go_enter Try.func18, Try.ntmps18
  go_upto_region 1 with fail
  rw [← HW1.out]
  by_cases ek : v.k = u.k
  rotate_left
  · have gek : (v.k == u.k) = false := by rw [beq_eq_false_iff_ne]; exact ek
    have Hr := Lib.hid (show R = false by rw [HR.out]; exact decide_eq_false (fun h => ek (by rw [Hv.out.1, Hu.out.1, h])))
    clear ek
    go_wp2_with fail
    go_ret
    exact ⟨by rw [Hr.out]; rfl, HB.out⟩
  have gek : (v.k == u.k) = true := by rw [beq_iff_eq]; exact ek
  by_cases eu : v.u = u.u
  rotate_left
  · have geu : (v.u == u.u) = false := by rw [beq_eq_false_iff_ne]; exact eu
    have Hr := Lib.hid (show R = false by rw [HR.out]; exact decide_eq_false (fun h => eu (by rw [Hv.out.2.1, Hu.out.2.1, h])))
    clear eu
    go_wp2_with fail
    go_ret
    exact ⟨by rw [Hr.out]; rfl, HB.out⟩
  have geu : (v.u == u.u) = true := by rw [beq_iff_eq]; exact eu
  by_cases en : v.n = u.n
  rotate_left
  · have gen : (v.n == u.n) = false := by rw [beq_eq_false_iff_ne]; exact en
    have Hr := Lib.hid (show R = false by rw [HR.out]; exact decide_eq_false (fun h => en (by rw [Hv.out.2.2, Hu.out.2.2, h])))
    clear en
    go_wp2_with fail
    go_ret
    exact ⟨by rw [Hr.out]; rfl, HB.out⟩
  have gen : (v.n == u.n) = true := by rw [beq_iff_eq]; exact en
  by_cases ed : p.data = q.data
  rotate_left
  · have g : ((str p.data).toList == (str q.data).toList) = false := by rw [hsb]; exact decide_eq_false ed
    have Hr := Lib.hid (show R = false by rw [HR.out]; exact decide_eq_false (fun h => ed (by rw [h])))
    clear hsb ed
    go_wp2_with fail
    go_ret
    exact ⟨by rw [Hr.out]; rfl, HB.out⟩
  have g : ((str p.data).toList == (str q.data).toList) = true := by rw [hsb]; exact decide_eq_true ed
  have He := Lib.hid (show p.kind = q.kind ∧ p.who = q.who ∧ p.n = q.n ∧ p.data = q.data from ⟨by rw [← Hv.out.1, ek, Hu.out.1], by rw [← Hv.out.2.1, eu, Hu.out.2.1], by rw [← Hv.out.2.2, en, Hu.out.2.2], ed⟩)
  clear hsb ed
  go_wp2_with fail
  refine (SameSums_any v.P u.P v.pn u.pn v.pc u.pc p.proof q.proof w1 HP.out.2.2.2.1.1 HQ.out.2.2.2.1.1 (by have := op.1; omega) (by have := oq.1; omega)).mono ?_
  rintro e w2 ⟨rfl, hb2⟩
  obtain ⟨d37, hd37, hrow37⟩ := und37r
  have hX2 := HX.out.below hb2 HX.out.lt
  have hY2 := HY.out.below hb2 HY.out.lt
  have HX2 := Lib.hid (signed_row hX2)
  have HY2 := Lib.hid (signed_row hY2)
  have HB2 := Lib.hid (HB.out.trans (hb2.mono HB.out.size))
  have HP2 := Lib.hid (HP.out.below hb2)
  have HQ2 := Lib.hid (HQ.out.below hb2)
  clear hb2 hX2 hY2 x0 x1 x2 x3 x4 y0 y1 y2 y3 y4 hcx hcy g
  by_cases ep : p.proof = q.proof
  rotate_left
  · rw [decide_eq_false ep]
    have Hr := Lib.hid (show R = false by rw [HR.out]; exact decide_eq_false (fun h => ep (by rw [h])))
    clear ep
    go_wp2_with fail
    go_ret
    exact ⟨by rw [Hr.out]; rfl, HB2.out⟩
  rw [decide_eq_true ep]
  have Hr := Lib.hid (show R = decide (p.body = q.body ∧ p.sigs = q.sigs) by
    rw [HR.out]
    refine decide_eq_decide.2 ⟨fun h => by rw [h]; exact ⟨rfl, rfl⟩, fun h => pk_ext.2 ⟨He.out.1, He.out.2.1, He.out.2.2.1, He.out.2.2.2, ep, h⟩⟩)
  clear ep
  go_wp2_with (first | (refine wpList_load_mid_g (by first | rfl | simp [Region.wanted, yielded]) 37 (.tmp 41) rfl w.heap.size 5 rfl (sdC v.B v.bn v.bc v.S v.sn v.sc) d37 HX2.out hd37 hrow37 (by kernel_rfl) ?_) | (refine wpList_load_mid_g (by first | rfl | simp [Region.wanted, yielded]) 37 (.tmp 43) rfl (w.heap.size + 1) 5 rfl (sdC u.B u.bn u.bc u.S u.sn u.sc) d37 HY2.out hd37 hrow37 (by kernel_rfl) ?_))
  refine (sameSigned_any v.B v.bn v.bc v.S v.sn v.sc p.body p.sigs u.B u.bn u.bc u.S u.sn u.sc q.body q.sigs w2 HP2.out.2.2.2.2.1.1 HQ2.out.2.2.2.2.1.1 HP2.out.2.2.2.2.2 HQ2.out.2.2.2.2.2 op.2.2 oq.2.2 (by have := op.2.1; omega) (by have := oq.2.1; omega)).mono ?_
  rintro e w3 ⟨rfl, hb3⟩
  have HB3 := Lib.hid (HB2.out.trans (hb3.mono HB2.out.size))
  rw [← Hr.out]
  clear hb3 Hr
  go_wp2_with fail
  go_ret
  exact ⟨rfl, HB3.out⟩
end Go.Proofs.Yteofgkdpknaapaa
