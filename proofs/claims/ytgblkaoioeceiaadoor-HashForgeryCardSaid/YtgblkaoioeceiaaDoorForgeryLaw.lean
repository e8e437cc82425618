/- The law HashForgery. -/
import Derived.Test.YtgblkaoioeceiaaDoorRClash
namespace Go.Proofs.YtgblkaoioeceiaaDoor
open Go.RowKit Go.Sort

def zero12 : Array Value := #[.int .i64 0, .int .i64 0, .slice none 0 0, .slice none 0 0, .int .i64 0, .int .i64 0, .slice none 0 0, .slice none 0 0, .int .i64 0, .int .i64 0, .slice none 0 0, .slice none 0 0]
theorem info46 : (Tryd.prog.info? 46).map (fun i => (i.zero, i.size, i.bytes)) = some (some (.agg zero12), 12, 192) := by kernel_rfl
/-- A claim as it lies in a block. -/
def ClaimAt (w : World) (g off : Nat) (n i : Nat) (bs : List UInt8) (q : List Sum32) : Prop :=
  ∃ (A : Option Addr) (l c : Nat) (B : Option Addr) (m c2 : Nat), w.rangeAt g off [.int .i64 (n : Int), .int .i64 (i : Int), .slice A l c, .slice B m c2] ∧ Rd w 1 A l (bs.map byteV) ∧ l ≤ 1000 ∧ Rd w 32 B m (q.flatMap sumC) ∧ m ≤ c2

set_option maxRecDepth 100000 in
set_option maxHeartbeats 8000000 in
theorem Forgery_any (A : Option Addr) (len cap : Nat) (cs : List (List UInt8)) (X : Option Addr) (lx cx : Nat) (xs : List UInt8) (Pf : Option Addr) (lp cp : Nat) (ps : List Sum32) (w : World) (hg : Globs w) (hL : Lst w A len cs) (_hcap : len ≤ cap) (hX : Rd w 1 X lx (xs.map byteV)) (hcx : lx ≤ cx) (hP : Rd w 32 Pf lp (ps.flatMap sumC)) (hcp : lp ≤ cp) :
    Calls Tryd.prog 7 #[.slice A len cap, .slice X lx cx, .slice Pf lp cp] w fun e w' => e = .returned (.bool true) ∧ Below w.heap.size w w' := by
  obtain ⟨i32, hi32, hz32, hs32, hy32⟩ := info_parts info32
  obtain ⟨d41, hd41, hrow41⟩ := und41
  have hxl := hX.le
  have hpl' := hP.le
  have H1 := Lib.hid (Sanity_any w hg)
  have Hg := Lib.hid hg
  have HL := Lib.hid hL
  have HX := Lib.hid hX
  have HP := Lib.hid hP
  clear hg hL hX hP
  go_enter Tryd.func7, Tryd.ntmps7
  go_wp2_with fail
  refine H1.out.mono ?_
  rintro e w1 ⟨rfl, hB1⟩
  have H2 := Lib.hid (Chunks_any A len cap 7 cs w1 (HL.out.below hB1) (by omega) (by omega))
  have HB1 := Lib.hid hB1
  clear hB1 H1 HL
  go_wp2_with fail
  refine H2.out.mono ?_
  rintro e w2 ⟨A2, n, c, rfl, hnc, hL2, hb2⟩
  have hnl := hL2.len
  have hcl := chunksL_len cs 7 (by omega)
  have hsm := chunksL_small cs 7
  have hB2 := HB1.out.trans (hb2.mono HB1.out.size)
  have HX2 := Lib.hid (HX.out.below hB2)
  have HP2 := Lib.hid (HP.out.below hB2)
  have Hg2 := Lib.hid (Hg.out.below hB2)
  have HB2 := Lib.hid hB2
  have HL2 := Lib.hid hL2
  clear HB1 hb2 hB2 hL2 H2 HX HP
  generalize chunksL cs 7 = ds at *
  have hn0 : 0 < n := by omega
  have hn7 : n ≤ 7 := by omega
  have hds : ∀ c ∈ ds, c.length ≤ 8796093021000 := fun c hc => by have := hsm c hc; omega
  have Hds := Lib.hid hds
  have Hsm := Lib.hid hsm
  clear hds hsm
  go_upto_region 3 with fail
  iterate 8 (first | go_values | go_skip | go_guarded | go_step | go_upon | go_back | go_simp)
  go_cut [9] from 21 to 30 (fun t9 wx => (∃ i : Nat, i < n ∧ t9 = .int .i64 (i : Int)) ∧ wx = w2)
  case first =>
    by_cases h0 : lx = 0
    · subst h0
      go_wp2_with fail
      go_meet
      exact ⟨⟨0, hn0, rfl⟩, rfl⟩
    · obtain ⟨bX, oX, x0, rfl, hx0, cx0⟩ := HX2.out.byte_ (show 0 < lx by omega)
      obtain ⟨i, hi⟩ : ∃ i, i = x0.toNat % n := ⟨_, rfl⟩
      have hin : i < n := by rw [hi]; exact Nat.mod_lt _ hn0
      have him : (x0.toNat : Int) % (n : Int) = (i : Int) := by rw [hi]; omega
      have h1 := x0.toNat_lt
      have hmod : (wrap64 (x0.toNat : Int)).tmod (n : Int) = (i : Int) := by
        rw [show wrap64 (x0.toNat : Int) = (x0.toNat : Int) from by unfold wrap64; omega, Int.tmod_eq_emod_of_nonneg (by omega), him]
      rw [Nat.add_zero] at cx0
      clear hi hx0
      go_wp2_with fail
      go_meet
      exact ⟨⟨i, hin, by rw [him]⟩, rfl⟩
  case rest =>
    obtain ⟨⟨i, hin, rfl⟩, rfl⟩ := hcut
    have hPr := Proof_any A2 n c i ds wc Hg2.out HL2.out (by omega) (fun c hc => by have := Hds.out c hc; omega) hin
    have HPr := Lib.hid hPr
    clear hPr
    go_wp2_with fail
    refine HPr.out.mono ?_
    rintro e w3 ⟨A3, n3, c3, rfl, hn3, hr3, hb3⟩
    obtain ⟨p, hp⟩ : ∃ p, p = proofL (ds.map leafS) i := ⟨_, rfl⟩
    rw [← hp] at hr3
    have hpl := hr3.lenf sumC_len (by omega)
    have hplen : p.length ≤ 3 := by rw [hp]; exact proofL_length 3 _ _ (by rw [List.length_map]; omega)
    have hL3 := HL2.out.below hb3
    obtain ⟨bL, oL, v, ci, rfl, hci, cc, hrd, hvc⟩ := hL3.at_ hin
    have hcil : ci.length ≤ 8 := Hsm.out ci (List.mem_of_getElem? hci)
    have hvn := hrd.len1
    have hroot : root ds = rootL (ds.map leafS) := by
      match ds, hnl, hcl with
      | c :: ds, _, _ => rfl
    have hchk : chkL n i (leafS ci) p = some (root ds) := by
      have := chk_proof _ (ds.map leafS) i (Nat.le_refl _) (by rw [List.length_map]; omega)
      rw [List.length_map, hnl, List.getD_eq_getElem?_getD, List.getElem?_map, hci] at this
      rw [hroot, hp]
      exact this
    have H3 := Lib.hid (Root_any (some ⟨bL, oL, none⟩) n c ds w3 (Hg2.out.below hb3) hL3 (by omega) (fun c hc => by have := Hds.out c hc; omega))
    have Hrd := Lib.hid hrd
    have Hr3 := Lib.hid hr3
    have Hcc := Lib.hid cc
    have Hchk := Lib.hid hchk
    have HX3 := Lib.hid (HX2.out.below hb3)
    have HP3 := Lib.hid (HP2.out.below hb3)
    have HB3 := Lib.hid (HB2.out.trans (hb3.mono HB2.out.size))
    have Hg3 := Lib.hid (Hg2.out.below hb3)
    have d4 : decide ((4 : Int) < (n3 : Int)) = false := decide_eq_false (by omega)
    have d4' : decide (4 < n3) = false := decide_eq_false (by omega)
    clear hrd hr3 hL3 hb3 hp hroot hchk cc HL2 HX2 HP2 HB2 Hg2 HPr Hds Hsm hci
    go_wp2_with fail
    refine H3.out.mono ?_
    rintro e w4 ⟨rfl, hb4⟩
    obtain ⟨rt, hrt⟩ : ∃ rt, rt = root ds := ⟨_, rfl⟩
    have hchk := Hchk.out
    rw [← hrt] at hchk ⊢
    have Hchk := Lib.hid hchk
    rw [show sumV rt.1 = .agg (sumC rt).toArray from rfl]
    have hsS : (sumC rt).toArray.size = 32 := by rw [List.size_toArray, sumC_len]
    have hones : (sumC rt).toArray.all (·.oneCell') = true := all_oneCell_toArray (oneB _)
    have hH4 : (w4.alloc (.cells zero32 32)).heap[w4.heap.size]? = some (.cells zero32 32 (0, 0)) := heap_alloc_new _ _
    have Hb4 := Lib.hid hb4
    clear hb4 hrt hchk H3 d4 d4'
    go_upto_region 10 with (first | (refine wpList_alloc0 rfl 32 rfl zero32 (.agg zero32) i32 hi32 hz32 rfl ?_; simp only [Act.put, List.setIfInBounds_toArray, List.set_cons_succ, List.set_cons_zero]) | (refine wpList_store_row rfl 32 (.tmp 12) (.tmp 45) rfl w4.heap.size (sumC rt).toArray rfl rfl 32 zero32 hH4 (size32 _ hsS) (zero32_size.trans hsS.symm) hones ?_; simp only [Act.put]))
    obtain ⟨w5, hw5⟩ : ∃ w5, w5 = (w4.alloc (.cells zero32 32)).setRow w4.heap.size (sumC rt).toArray := ⟨_, rfl⟩
    have hb5 : Below w4.heap.size w4 w5 := by rw [hw5]; exact Below.setRow ((Below.refl _ _).alloc (Nat.le_refl _) _) (Nat.le_refl _) _
    have hR5 : Blk w5 w4.heap.size 32 (sumC rt).toArray := by rw [hw5]; exact setRow_heap _ _ _ _ _ _ hH4
    rw [← hw5]
    have hb35 : Below w3.heap.size w3 w5 := Hb4.out.trans (hb5.mono Hb4.out.size)
    have cc5 := (hb35.cell (World.block_lt_of_cell? w3 _ Hcc.out)).trans Hcc.out
    have HR5 := Lib.hid hR5
    have Hb35 := Lib.hid hb35
    have hs5 := hR5.lt
    have hs4 := Hb4.out.size
    have hs3 := HB3.out.size
    obtain ⟨rb, hrb⟩ : ∃ rb, rb = w4.heap.size := ⟨_, rfl⟩
    rw [← hrb] at HR5 hs5 ⊢
    have hrb3 : w3.heap.size ≤ rb := by omega
    clear hw5 hb5 hR5 hH4 hb35 hsS hones Hb4 hrb
    go_upto_region 11 with fail
    clear cc5
    obtain ⟨w6, hw6⟩ : ∃ w6, w6 = w5.alloc (.cells #[.int .i64 (n : Int), .int .i64 (i : Int), .slice v.a v.n v.c, .slice A3 n3 c3] 41) := ⟨_, rfl⟩
    have hC6 : Blk w6 w5.heap.size 41 (claimV n i v.a v.n v.c A3 n3 c3) := by rw [hw6]; exact Blk.new _ _ _
    have hb6 : Below w5.heap.size w5 w6 := by rw [hw6]; exact (Below.refl _ _).alloc (Nat.le_refl _) _
    rw [← hw6]
    clear hw6
    have hr6 := Hr3.out.below (Hb35.out.trans (hb6.mono Hb35.out.size))
    have Hr6 := Lib.hid hr6
    have HC6 := Lib.hid hC6
    have Hb6 := Lib.hid hb6
    have hs6 := hC6.lt
    clear hC6 hb6 hr6
    go_cut [14] from 55 to 57 (fun t14 wx => ∃ Ao co, t14 = .slice Ao n3 co ∧ n3 ≤ co ∧ AppZ wx w6.heap.size 32 32 (.slice Ao n3 co) n3 (p.flatMap sumC) ∧ Below w6.heap.size w6 wx)
    case first =>
      go_wp2_with (at_builtin; go_loud (refine wpList_appz rfl (.tmp 55) (.tmp 56) 27 rfl 32 i32 (.agg zero32) 32 32 Tryd.underlying27 hi32 hz32 hs32 hy32 rfl (by omega) w6.heap.size (by simp) _ 0 [] rfl (AppZ.empty _ (Nat.le_refl _) _) A3 n3 c3 (p.flatMap sumC) rfl (Hr6.out.alloc _) (oneP p) (by unfold maxLen; omega) (by omega) ?_; intro v2 w7 ha2 hg2; have hg2' : (w6.alloc (.cells #[] 32)).grownBy w7 (some w6.heap.size) := hg2; rw [Nat.zero_add, List.nil_append] at ha2; obtain ⟨Ao, co, rfl, hco, hrdo⟩ := ha2.rd; have hb7 : Below w6.heap.size w6 w7 := ((Below.refl _ w6).alloc (Nat.le_refl _) (.cells #[] 32)).grown hg2' (by simp) (fun k e => by cases e; exact Nat.le_refl _); have Ha2 := Lib.hid ha2; have Hb7 := Lib.hid hb7; clear ha2 hg2 hg2' hb7 hrdo))
      go_meet
      exact ⟨Ao, co, rfl, hco, Ha2.out, Hb7.out⟩
    case rest =>
      obtain ⟨Ao, co, rfl, hco, ha7, hb7⟩ := hcut
      obtain ⟨w7, hw7⟩ : ∃ w7, w7 = wc := ⟨_, rfl⟩
      subst hw7
      have hb37 : Below w3.heap.size w3 w7 := Hb35.out.trans ((Hb6.out.trans (hb7.mono Hb6.out.size)).mono Hb35.out.size)
      have hX7 := HX3.out.below hb37
      have hP7 := HP3.out.below hb37
      have hR7 := HR5.out.below (Hb6.out.trans (hb7.mono Hb6.out.size)) (by omega)
      have hC7 := HC6.out.below hb7 hs6
      have hB7 := HB3.out.trans (hb37.mono hs3)
      obtain ⟨hbk, hhbk⟩ : ∃ hbk, hbk = w5.heap.size := ⟨_, rfl⟩
      rw [← hhbk] at hC7 ⊢
      have hlto := ha7.lt
      have hrbh : rb < hbk := by omega
      have h6 : hbk < w6.heap.size := by omega
      have h3w : w3.heap.size ≤ w6.heap.size := by have := Hb35.out.size; omega
      have HX7 := Lib.hid hX7
      have HP7 := Lib.hid hP7
      have HR7 := Lib.hid hR7
      have HC7 := Lib.hid hC7
      have HB7 := Lib.hid hB7
      have Ha7 := Lib.hid ha7
      have Hb37 := Lib.hid hb37
      have Hlto := Lib.hid hlto
      clear hX7 hP7 hR7 hC7 hB7 ha7 hb37 hb7 hlto hhbk Hb35 Hb6 HR5 HC6 Hr6
      iterate 2 (first | go_values | go_skip | go_guarded | go_step | go_upon | go_back | go_simp)
      go_cut [] from 58 to 86 (fun wx => ∃ q : List Sum32, Rd wx 32 Ao n3 (q.flatMap sumC) ∧ KeptIn (fun k => k < w6.heap.size) w7 wx)
      case first =>
        by_cases hn : 0 < n3 ∧ 1 < lx
        · obtain ⟨hn3, hlx⟩ := hn
          obtain ⟨bX, oX, x0, rfl, hx0, cx0⟩ := HX7.out.byte_ (show 0 < lx by omega)
          obtain ⟨bX', oX', x1, eX, hx1, cx1⟩ := HX7.out.byte_ (show 1 < lx by omega)
          cases eX
          rw [Nat.add_zero] at cx0
          obtain ⟨g, hg⟩ : ∃ g, Ao = some ⟨g, 0, none⟩ ∧ w7.ownsRow w6.heap.size 32 32 (.slice Ao n3 co) n3 (p.flatMap sumC) := by
            rcases Ha7.out with ⟨h, _⟩ | h
            · omega
            · rcases h.2 with ⟨hv, h0⟩ | ⟨g, _, _, hv, _⟩
              · omega
              · cases hv
                exact ⟨g, rfl, h⟩
          obtain ⟨rfl, hown⟩ := hg
          obtain ⟨cur, hcur⟩ := ownsRow_blk hown
          obtain ⟨q0, hq0⟩ : ∃ q0, q0 = x1.toNat % n3 := ⟨_, rfl⟩
          have hq : q0 < n3 := by rw [hq0]; exact Nat.mod_lt _ (by omega)
          have hqi : (x1.toNat : Int) % (n3 : Int) = (q0 : Int) := by rw [hq0]; omega
          obtain ⟨r0, hr0⟩ : ∃ r0, r0 = x0.toNat % 32 := ⟨_, rfl⟩
          have hr : r0 < 32 := by rw [hr0]; exact Nat.mod_lt _ (by omega)
          have hri : (x0.toNat : Int) % 32 = (r0 : Int) := by rw [hr0]; omega
          obtain ⟨bp, op, x, e, hx, hcp'⟩ := (Rd.of_own hown).flat_ sumC_len (by omega) hq
          cases e
          obtain ⟨y, hy⟩ : ∃ y, x.1[r0]? = some y := ⟨_, List.getElem?_eq_getElem (by rw [x.2]; exact hr)⟩
          have hc := hcp' r0 (byteV y) (by unfold sumC; rw [List.getElem?_map, hy]; rfl)
          rw [Nat.zero_add] at hc
          have hc' : w7.cell? ⟨g, q0 * 32 + r0, none⟩ = some (.int .u8 (y.toNat : Int)) := hc
          have hf := hcur.frozen (q0 * 32 + r0)
          have hxor : bits .xor .u8 (y.toNat : Int) (x1.toNat : Int) = ((y ^^^ x1).toNat : Int) := w8_xor y x1
          have hset := flat_set (f := sumC) sumC_len p q0 r0 x (setS x r0 (y ^^^ x1)) (byteV (y ^^^ x1)) hx hr (sumC_setS _ _ _)
          have hown' := ownsRow_set hown (g := g) rfl (q0 * 32 + r0) (byteV (y ^^^ x1))
          rw [hset] at hown'
          have hgb := (Hlto.out g rfl).1
          have hK := (KeptIn.refl (fun k => k < w6.heap.size) w7).setAt (p := ⟨g, q0 * 32 + r0, none⟩) (fun h => by have h' : g < w6.heap.size := h; omega) (byteV (y ^^^ x1))
          have Hown := Lib.hid (Rd.of_own hown')
          have HK2 := Lib.hid hK
          have h1t := x1.toNat_lt
          have hd1 : decide (0 < n3) = true := decide_eq_true (by omega)
          have hd2 : decide ((0 : Int) < (n3 : Int)) = true := decide_eq_true (by omega)
          have hd3 : decide (1 < lx) = true := decide_eq_true (by omega)
          have hd4 : decide ((1 : Int) < (lx : Int)) = true := decide_eq_true (by omega)
          have hmq : (wrap64 (x1.toNat : Int)).tmod (n3 : Int) = (q0 : Int) := by
            rw [show wrap64 (x1.toNat : Int) = (x1.toNat : Int) from by unfold wrap64; omega, Int.tmod_eq_emod_of_nonneg (by omega), hqi]
          clear hq0 hr0 hcp' hc hx hy hset hown hown' hcur hK hx0 hx1
          go_upto_region 13 with fail
          refine wp_region_quiet_tail 21 (by kernel_rfl) (List.take_append_drop _ _) rfl (by kernel_rfl) (by kernel_rfl) (by kernel_rfl) (by kernel_rfl) (by kernel_rfl) (by decide) (by kernel_rfl) ?_
          simp only [List.take_succ_cons, List.take_zero, List.drop_succ_cons, List.drop_zero]
          repeat (go_big_quiet_step (fail))
          refine wpQuiet_nil ?_
          intro wq hw'
          obtain ⟨nq2, rfl⟩ := hw'
          go_wp2_with fail
          go_meet
          have hv : Value.int .u8 ((y.toNat ^^^ x1.toNat : Nat) : Int) = byteV (y ^^^ x1) := by unfold byteV; rw [UInt8.toNat_xor]
          rw [hv, show (w7.drewN nq2).setCell ⟨g, q0 * 32 + r0, none⟩ (byteV (y ^^^ x1)) = (w7.setCell ⟨g, q0 * 32 + r0, none⟩ (byteV (y ^^^ x1))).drewN nq2 from rfl]
          exact ⟨_, Hown.out.drewN nq2, HK2.out.trans (KeptIn.of_below (below_drewN (Below.refl w6.heap.size _) nq2) (fun k h => h))⟩
        · have keep : KeptIn (fun k => k < w6.heap.size) w7 w7 := KeptIn.refl _ _
          have hrd7 : Rd w7 32 Ao n3 (p.flatMap sumC) := by obtain ⟨A, c, e, _, h⟩ := Ha7.out.rd; cases e; exact h
          by_cases hn3 : 0 < n3
          · have hlx : ¬ 1 < lx := fun h => hn ⟨hn3, h⟩
            have Hk := Lib.hid keep
            have Hrd7 := Lib.hid hrd7
            clear keep hrd7
            have hd1 : decide (0 < n3) = true := decide_eq_true (by omega)
            have hd2 : decide ((0 : Int) < (n3 : Int)) = true := decide_eq_true (by omega)
            have hd3 : decide (1 < lx) = false := decide_eq_false (by omega)
            have hd4 : decide ((1 : Int) < (lx : Int)) = false := decide_eq_false (by omega)
            go_wp2_with fail
            go_meet
            exact ⟨p, Hrd7.out, Hk.out⟩
          · have hd1 : decide (0 < n3) = false := decide_eq_false (by omega)
            have hd2 : decide ((0 : Int) < (n3 : Int)) = false := decide_eq_false (by omega)
            have Hk := Lib.hid keep
            have Hrd7 := Lib.hid hrd7
            clear keep hrd7
            go_wp2_with fail
            go_meet
            exact ⟨p, Hrd7.out, Hk.out⟩
      case rest =>
        obtain ⟨q, hq8, hk8⟩ := hcut
        obtain ⟨w8, hw8⟩ : ∃ w8, w8 = wc := ⟨_, rfl⟩
        subst hw8
        have hb38 : Below w3.heap.size w3 w8 := Hb37.out.trans (hk8.below (fun k hk => by omega))
        have cc8 := (hb38.cell (World.block_lt_of_cell? w3 _ Hcc.out)).trans Hcc.out
        have hX8 := HX3.out.below hb38
        have hP8 := HP3.out.below hb38
        have hrd8 := Hrd.out.below hb38
        have hr8 := Hr3.out.below hb38
        have hg8 := Hg3.out.below hb38
        have hR8 := HR7.out.keptIn hk8 (show rb < w6.heap.size by omega)
        have hC8 := HC7.out.keptIn hk8 h6
        have hB8 := HB3.out.trans (hb38.mono hs3)
        have hs8 := hk8.size
        have HX8 := Lib.hid hX8
        have HP8 := Lib.hid hP8
        have Hrd8 := Lib.hid hrd8
        have Hr8 := Lib.hid hr8
        have Hg8 := Lib.hid hg8
        have HR8 := Lib.hid hR8
        have HC8 := Lib.hid hC8
        have HB8 := Lib.hid hB8
        have Hq8 := Lib.hid hq8
        have hRlt := hR8.lt
        have hClt := hC8.lt
        clear hb38 hX8 hP8 hrd8 hr8 hg8 hR8 hC8 hB8 hq8 hk8 HX7 HP7 HR7 HC7 HB7 Ha7 Hb37 Hlto HX3 HP3 Hrd Hr3 Hcc Hg3
        obtain ⟨mx, hmx, hmxl, hmx9⟩ : ∃ m : Nat, (if (9 : Int) < (lx : Int) then 9 else (lx : Int)) = (m : Int) ∧ m ≤ lx ∧ m ≤ 9 := by
          by_cases h : lx ≤ 9
          · exact ⟨lx, by rw [if_neg (by omega)], Nat.le_refl _, h⟩
          · exact ⟨9, by rw [if_pos (by omega)]; rfl, by omega, Nat.le_refl _⟩
        obtain ⟨ml, hml, hmll, hml4⟩ : ∃ m : Nat, (if (4 : Int) < (lp : Int) then 4 else (lp : Int)) = (m : Int) ∧ m ≤ lp ∧ m ≤ 4 := by
          by_cases h : lp ≤ 4
          · exact ⟨lp, by rw [if_neg (by omega)], Nat.le_refl _, h⟩
          · exact ⟨4, by rw [if_pos (by omega)]; rfl, by omega, Nat.le_refl _⟩
        obtain ⟨i46, hi46, hz46, hs46, hy46⟩ := info_parts info46
        have ccr := cell_regrown cc8
        have hmxc : mx ≤ cx := by omega
        have hmlc : ml ≤ cp := by omega
        clear cc8
        go_upto_region 14 with fail
        refine wp_region_reads_tail 35 [0, 1, 2, 3, 4, 5, 6, 7, 8, 9, 10, 11, 12, 13, 14, 15, 16, 17, 18, 19, 20, 21, 22, 23, 24, 25, 26, 27, 28, 29, 30, 31, 32, 33] 1 (by kernel_rfl) (List.take_append_drop _ _) rfl (by kernel_rfl) (by kernel_rfl) (by kernel_rfl) (by decide) (by kernel_rfl) (by kernel_rfl) (fun _ _ d _ _ h => by cases d <;> exact h) (by kernel_rfl) (by kernel_rfl) rfl ?_
        simp only [List.take_succ_cons, List.take_zero, List.drop_succ_cons, List.drop_zero, pickOps, List.getElem?_cons_zero, List.getElem?_cons_succ]
        repeat (first | rw [hmx] | rw [hml] | go_big_quiet_step (fail))
        refine wpQuiet_nil ?_
        refine wpAnyH_one (i := 34) (by kernel_rfl) rfl ?_
        intro K hK
        refine step_alloc0 rfl 46 rfl zero12 (.agg zero12) i46 hi46 hz46 rfl ?_
        have hba : Below w8.heap.size w8 (w8.drew.alloc (.cells zero12 46)) := (Below.refl _ w8).drew.alloc (Nat.le_refl _) _
        refine hK _ _ (ext_of hba) ?_
        clear hK K
        refine wpAnyH_done (by kernel_rfl) ?_ _
        simp only [Exit.then, Act.put, List.setIfInBounds_toArray, List.set_cons_succ, List.set_cons_zero]
        obtain ⟨CL, hCL⟩ : ∃ CL : Array Value, CL = #[.int .i64 (n : Int), .int .i64 (i : Int), .slice X mx cx, .slice A3 n3 c3, .int .i64 (n : Int), .int .i64 (i : Int), .slice v.a v.n v.c, .slice Ao n3 co, .int .i64 (n : Int), .int .i64 (i : Int), .slice X mx cx, .slice Pf ml cp] := ⟨_, rfl⟩
        have hH9 : (w8.drew.alloc (.cells zero12 46)).heap[w8.heap.size]? = some (.cells zero12 46 (0, 0)) := heap_alloc_new w8.drew _
        refine wpList_store_row rfl 46 (.tmp 15) (.tmp 120) rfl w8.heap.size CL rfl (by rw [hCL]; rfl) 46 zero12 hH9 (by rw [hCL]; kernel_rfl) (by rw [hCL]; rfl) (by rw [hCL]; simp [Value.oneCell']) ?_
        refine wpList_nil ?_
        obtain ⟨w9, hw9⟩ : ∃ w9, w9 = (w8.drew.alloc (.cells zero12 46)).setRow w8.heap.size CL := ⟨_, rfl⟩
        have hb9 : Below w8.heap.size w8 w9 := by rw [hw9]; exact Below.setRow hba (Nat.le_refl _) _
        have hD9 : Blk w9 w8.heap.size 46 CL := by rw [hw9]; exact setRow_heap _ _ _ _ _ _ hH9
        rw [← hw9]
        obtain ⟨clb, hclb⟩ : ∃ clb, clb = w8.heap.size := ⟨_, rfl⟩
        rw [show w8.drew.heap.size = w8.heap.size from rfl, ← hclb]
        rw [← hclb] at hD9
        have hcl9 : ∀ k, k < 3 → ∃ (A' : Option Addr) (l' c' : Nat) (bs' : List UInt8) (B' : Option Addr) (m' c2' : Nat) (p' : List Sum32), w9.rangeAt clb (k * 4) [.int .i64 (n : Int), .int .i64 (i : Int), .slice A' l' c', .slice B' m' c2'] ∧ Rd w9 1 A' l' (bs'.map byteV) ∧ l' ≤ 1000 ∧ Rd w9 32 B' m' (p'.flatMap sumC) ∧ m' ≤ c2' := by
          have rng : ∀ (o : Nat) (l : List Value), (∀ j u, l[j]? = some u → CL[o + j]? = some u) → w9.rangeAt clb o l := fun o l hl j u hu => by rw [hD9.cell]; exact hl j u hu
          have four : ∀ (o : Nat) (a b c d : Value), CL[o]? = some a → CL[o + 1]? = some b → CL[o + 2]? = some c → CL[o + 3]? = some d → w9.rangeAt clb o [a, b, c, d] := fun o a b c d h0 h1 h2 h3 => rng o _ fun j u hu => by
            rcases j with _ | _ | _ | _ | j
            · cases hu; exact h0
            · cases hu; exact h1
            · cases hu; exact h2
            · cases hu; exact h3
            · simp at hu
          intro k hk
          rcases (show k = 0 ∨ k = 1 ∨ k = 2 by omega) with rfl | rfl | rfl
          · exact ⟨X, mx, cx, xs.take mx, A3, n3, c3, p, four _ _ _ _ _ (by rw [hCL]; rfl) (by rw [hCL]; rfl) (by rw [hCL]; rfl) (by rw [hCL]; rfl), (HX8.out.head1 hmxl).below hb9, by omega, Hr8.out.below hb9, hn3⟩
          · exact ⟨v.a, v.n, v.c, ci, Ao, n3, co, q, four _ _ _ _ _ (by rw [hCL]; rfl) (by rw [hCL]; rfl) (by rw [hCL]; rfl) (by rw [hCL]; rfl), Hrd8.out.below hb9, by omega, Hq8.out.below hb9, hco⟩
          · exact ⟨X, mx, cx, xs.take mx, Pf, ml, cp, ps.take ml, four _ _ _ _ _ (by rw [hCL]; rfl) (by rw [hCL]; rfl) (by rw [hCL]; rfl) (by rw [hCL]; rfl), (HX8.out.head1 hmxl).below hb9, by omega, (HP8.out.head32 hmll).below hb9, hmlc⟩
        have hrd9 := Hrd8.out.below hb9
        have hr9 := Hr8.out.below hb9
        have hg9 := Hg8.out.below hb9
        have hR9 := HR8.out.below hb9 hRlt
        have hC9 := HC8.out.below hb9 hClt
        have hB9 := HB8.out.trans (hb9.mono HB8.out.size)
        have Hcl9 := Lib.hid hcl9
        have Hrd9 := Lib.hid hrd9
        have Hr9 := Lib.hid hr9
        have Hg9 := Lib.hid hg9
        have HR9 := Lib.hid hR9
        have HC9 := Lib.hid hC9
        have HB9 := Lib.hid hB9
        have hrlt9 := hR9.lt
        have hclt9 := hC9.lt
        have hdlt9 := hD9.lt
        clear hcl9 hrd9 hr9 hg9 hR9 hC9 hB9 hD9 hb9 hw9 hba hH9 hCL ccr HX8 HP8 Hrd8 Hr8 Hg8 HR8 HC8 HB8 Hq8 hclb hmx hml
        simp only [Act.put]
        go_wp2_with fail
        go_loopw [16, 17] (fun v16 _ wr => ∃ k : Nat, k ≤ 3 ∧ v16 = .int .i64 (k : Int) ∧ Below w9.heap.size w9 wr) (fun v16 _ _ => 3 - (intOf v16).toNat)
        case atStart => exact ⟨0, by omega, rfl, Below.refl _ _⟩
        case round =>
          obtain ⟨k, hk3, rfl, hB⟩ := hrel
          by_cases hlt : k < 3
          · obtain ⟨A', l', c', bs', B', m', c2', p', hrng, hr', hl', hp', hm'⟩ := Hcl9.out k hlt
            have hrng' : wr.rangeAt clb (k * 4) [.int .i64 (n : Int), .int .i64 (i : Int), .slice A' l' c', .slice B' m' c2'] := fun j u hu => (hB.cell (World.block_lt_of_cell? w9 _ (hrng j u hu))).trans (hrng j u hu)
            have Hrng := Lib.hid hrng'
            have Hr' := Lib.hid hr'
            have Hp' := Lib.hid hp'
            have HB := Lib.hid hB
            have hsz := hB.size
            clear hrng hrng' hr' hp' hB
            go_upto_region 19 with (refine wpList_load_mid rfl 41 (.tmp 126) rfl clb (k * 4) rfl [.int .i64 (n : Int), .int .i64 (i : Int), .slice A' l' c', .slice B' m' c2'] _ Hrng.out hd41 hrow41 (by kernel_rfl) ?_)
            obtain ⟨wa, hwa⟩ : ∃ wa, wa = wr.alloc (.cells #[.int .i64 (n : Int), .int .i64 (i : Int), .slice A' l' c', .slice B' m' c2'] 41) := ⟨_, rfl⟩
            have hK : Blk wa wr.heap.size 41 (claimV n i A' l' c' B' m' c2') := by rw [hwa]; exact Blk.new _ _ _
            have hba : Below wr.heap.size wr wa := by rw [hwa]; exact (Below.refl _ _).alloc (Nat.le_refl _) _
            rw [← hwa]
            clear hwa
            obtain ⟨kb, hkb⟩ : ∃ kb, kb = wr.heap.size := ⟨_, rfl⟩
            rw [← hkb] at hK ⊢
            have hb9a := HB.out.trans (hba.mono hsz)
            have hCa := HC9.out.below hb9a hclt9
            have c2k : wa.cell? ⟨kb, 2, none⟩ = some (.slice A' l' c') := by rw [hK.cell]; rfl
            have c3k : wa.cell? ⟨kb, 3, none⟩ = some (.slice B' m' c2') := by rw [hK.cell]; rfl
            have c2h : wa.cell? ⟨hbk, 2, none⟩ = some (.slice v.a v.n v.c) := by rw [hCa.cell]; rfl
            have c3h : wa.cell? ⟨hbk, 3, none⟩ = some (.slice A3 n3 c3) := by rw [hCa.cell]; rfl
            have hsb := SameBytes_any A' v.a l' v.n c' v.c bs' ci wa (Hr'.out.below hb9a) (Hrd9.out.below hb9a)
            have hss := fun W (hW : Below wa.heap.size wa W) => RSameSums_any B' A3 m' n3 c2' c3 p' p W ((Hp'.out.below hb9a).below hW) ((Hr9.out.below hb9a).below hW)
            have HK := Lib.hid hK
            have HCa := Lib.hid hCa
            have Hba := Lib.hid hb9a
            have Hsb := Lib.hid hsb
            have Hss := Lib.hid hss
            have hsa := hb9a.size
            clear hK hCa hba hb9a hsb hss hkb
            go_cut [139] from 128 to 138 (fun t139 wx => t139 = .bool (decide (bs' = ci ∧ p' = p)) ∧ Below wa.heap.size wa wx)
            case first =>
              by_cases hbs : bs' = ci
              · have hsb := Hsb.out
                rw [decide_eq_true hbs] at hsb
                have Hsb2 := Lib.hid hsb
                clear hsb
                go_wp2_with fail
                refine Hsb2.out.mono ?_
                rintro e wb ⟨rfl, mb, rfl⟩
                have hd := below_drewN (Below.refl wa.heap.size wa) mb
                have e3k := (hd.cell (World.block_lt_of_cell? wa _ c3k)).trans c3k
                have e3h := (hd.cell (World.block_lt_of_cell? wa _ c3h)).trans c3h
                have hss := Hss.out _ hd
                have Hd := Lib.hid hd
                have Hss2 := Lib.hid hss
                obtain ⟨wb, hwb⟩ : ∃ wb, wb = wa.drewN mb := ⟨_, rfl⟩
                rw [← hwb] at Hd e3k e3h Hss2 ⊢
                clear hwb hd hss c2k c3k c2h c3h
                go_wp2_with fail
                refine Hss2.out.mono ?_
                rintro e wd ⟨rfl, hbd⟩
                have Hbd := Lib.hid (Hd.out.trans (hbd.mono Hd.out.size))
                clear hbd
                go_wp2_with fail
                go_meet
                exact ⟨by rw [show (decide (bs' = ci ∧ p' = p)) = decide (p' = p) from decide_eq_decide.2 ⟨fun h => h.2, fun h => ⟨hbs, h⟩⟩], Hbd.out⟩
              · have hsb := Hsb.out
                rw [decide_eq_false hbs] at hsb
                have Hsb2 := Lib.hid hsb
                clear hsb
                go_wp2_with fail
                refine Hsb2.out.mono ?_
                rintro e wb ⟨rfl, mb, rfl⟩
                have Hd := Lib.hid (below_drewN (Below.refl wa.heap.size wa) mb)
                clear c2k c3k c2h c3h
                go_wp2_with fail
                go_meet
                exact ⟨by rw [decide_eq_false (fun h => hbs h.1)], Hd.out⟩
            case rest =>
              obtain ⟨rfl, hbc⟩ := hcut
              clear c2k c3k c2h c3h Hsb Hss
              obtain ⟨we, hwe⟩ : ∃ we, we = wc := ⟨_, rfl⟩
              subst hwe
              have hb9e := Hba.out.trans (hbc.mono hsa)
              have Hb9e := Lib.hid hb9e
              by_cases hsame : bs' = ci ∧ p' = p
              · rw [decide_eq_true hsame]
                clear hsame hbc hb9e
                go_wp2_with fail
                go_roundw
                case rel => exact ⟨k + 1, by omega, by go_num, Hb9e.out⟩
                case measure => simp [intOf]; omega
              · rw [decide_eq_false hsame]
                have hKe := HK.out.below hbc HK.out.lt
                have hCe := HCa.out.below hbc HCa.out.lt
                have hRe := HR9.out.below hb9e hrlt9
                have hre' := Hr'.out.below hb9e
                have hpe' := Hp'.out.below hb9e
                have hrd9e := Hrd9.out.below hb9e
                have hr9e := Hr9.out.below hb9e
                have hge := Hg9.out.below hb9e
                have e0 : we.cell? ⟨kb, 0, none⟩ = some (.int .i64 (n : Int)) := by rw [hKe.cell]; rfl
                have e1 : we.cell? ⟨kb, 1, none⟩ = some (.int .i64 (i : Int)) := by rw [hKe.cell]; rfl
                have e2 : we.cell? ⟨kb, 2, none⟩ = some (.slice A' l' c') := by rw [hKe.cell]; rfl
                have e3 : we.cell? ⟨kb, 3, none⟩ = some (.slice B' m' c2') := by rw [hKe.cell]; rfl
                have hxr : we.rangeAt rb 0 (sumC rt) := Blk.range hRe
                have hcc := Check_any rt n i A' B' l' c' m' c2' bs' p' hin (by omega) we hge hre' (by omega) hpe' hm'
                have Hxr := Lib.hid hxr
                have HB9e := Lib.hid (HB9.out.trans (hb9e.mono HB9.out.size))
                by_cases hacc : chkL n i (leafS bs') p' = some rt
                · rw [decide_eq_true hacc] at hcc
                  obtain ⟨a, b, x, y, hba, hx, hy, hne, hsh⟩ := forge n i hin ci bs' p p' rt Hchk.out hacc (fun h => hsame ⟨h.1.symm, h.2.symm⟩)
                  have hcl : ∀ W, Below we.heap.size we W → Calls Tryd.prog 26 #[.agg (claimV n i v.a v.n v.c A3 n3 c3), .agg (claimV n i A' l' c' B' m' c2')] W fun e w' => e = .returned (.bool true) ∧ Below W.heap.size W w' := fun W hW =>
                    RClash_yes n i n i v.a A3 A' B' v.n v.c n3 c3 l' c' m' c2' ci bs' p p' hin (by omega) hin (by omega) W (hrd9e.below hW) (by omega) (hr9e.below hW) (hre'.below hW) hl' (hpe'.below hW) a b x y hba hx hy hne hsh
                  have hrk : ∀ W, Below we.heap.size we W → W.rangeAt kb 0 [.int .i64 (n : Int), .int .i64 (i : Int), .slice A' l' c', .slice B' m' c2'] := fun W hW => Blk.range (cs := [.int .i64 (n : Int), .int .i64 (i : Int), .slice A' l' c', .slice B' m' c2']) (hKe.below hW hKe.lt)
                  have hrh : ∀ W, Below we.heap.size we W → W.rangeAt hbk 0 [.int .i64 (n : Int), .int .i64 (i : Int), .slice v.a v.n v.c, .slice A3 n3 c3] := fun W hW => Blk.range (cs := [.int .i64 (n : Int), .int .i64 (i : Int), .slice v.a v.n v.c, .slice A3 n3 c3]) (hCe.below hW hCe.lt)
                  have Hcc := Lib.hid hcc
                  have Hcl := Lib.hid hcl
                  have Hrk := Lib.hid hrk
                  have Hrh := Lib.hid hrh
                  clear hcc hcl hrk hrh hKe hCe hRe hre' hpe' hrd9e hr9e hge hxr hbc hb9e hx hy hne hsh hba hacc hsame
                  go_wp2_with (refine wpList_load_mid_g (by first | rfl | simp [Region.wanted, yielded]) 32 (.tmp 12) rfl rb 0 rfl (sumC rt) _ Hxr.out und32 rfl (by rw [sumC_len]; kernel_rfl) ?_)
                  refine Hcc.out.mono ?_
                  rintro e wf ⟨rfl, hbf⟩
                  have G1 := Lib.hid (Hrh.out wf hbf)
                  have G2 := Lib.hid (Hrk.out wf hbf)
                  have HC2 := Lib.hid (Hcl.out wf hbf)
                  have Hbf := Lib.hid (Hb9e.out.trans (hbf.mono Hb9e.out.size))
                  clear hbf e0 e1 e2 e3
                  unfold claimV at HC2
                  go_wp2_with (first | (refine wpList_load_mid_g (by first | rfl | simp [Region.wanted, yielded]) 41 (.tmp 13) rfl hbk 0 rfl [.int .i64 (n : Int), .int .i64 (i : Int), .slice v.a v.n v.c, .slice A3 n3 c3] _ G1.out hd41 hrow41 (by kernel_rfl) ?_) | (refine wpList_load_mid_g (by first | rfl | simp [Region.wanted, yielded]) 41 (.tmp 17) rfl kb 0 rfl [.int .i64 (n : Int), .int .i64 (i : Int), .slice A' l' c', .slice B' m' c2'] _ G2.out hd41 hrow41 (by kernel_rfl) ?_))
                  refine HC2.out.mono ?_
                  rintro e wg ⟨rfl, hbg⟩
                  have Hbg := Lib.hid (Hbf.out.trans (hbg.mono Hbf.out.size))
                  clear hbg
                  go_wp2_with fail
                  go_roundw
                  case rel => exact ⟨k + 1, by omega, by go_num, Hbg.out⟩
                  case measure => simp [intOf]; omega
                · rw [decide_eq_false hacc] at hcc
                  have Hcc := Lib.hid hcc
                  clear hcc hKe hCe hRe hre' hpe' hrd9e hr9e hge hxr hbc hb9e hacc hsame
                  go_wp2_with (refine wpList_load_mid_g (by first | rfl | simp [Region.wanted, yielded]) 32 (.tmp 12) rfl rb 0 rfl (sumC rt) _ Hxr.out und32 rfl (by rw [sumC_len]; kernel_rfl) ?_)
                  refine Hcc.out.mono ?_
                  rintro e wf ⟨rfl, hbf⟩
                  have Hbf := Lib.hid (Hb9e.out.trans (hbf.mono Hb9e.out.size))
                  clear hbf e0 e1 e2 e3
                  go_wp2_with fail
                  go_roundw
                  case rel => exact ⟨k + 1, by omega, by go_num, Hbf.out⟩
                  case measure => simp [intOf]; omega
          · have Hz := Lib.hid (HB9.out.trans (hB.mono HB9.out.size))
            clear hB
            go_wp2_with fail
            go_ret
            exact ⟨rfl, Hz.out⟩
end Go.Proofs.YtgblkaoioeceiaaDoor
