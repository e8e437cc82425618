/- The reference's block. -/
import Derived.Test.YtgblkaoioeceiaaDoorRVars
namespace Go.Proofs.YtgblkaoioeceiaaDoor
open Go.RowKit Go.Sort

theorem infoN : (Tryd.prog.info? 54).map (fun i => (i.zero, i.size, i.bytes)) = some (some (.int .u32 0), 1, 4) := by kernel_rfl
set_option maxRecDepth 100000 in
set_option maxHeartbeats 1000000 in
theorem Starts_any (w : World) : Calls Tryd.prog 34 #[] w fun e w' => e = .returned (.agg (stArr stInit)) ∧ Below w.heap.size w w' := by
  go_enter Tryd.func34, Tryd.ntmps34
  go_wp2
  refine bodyPost_ret (results_cell_row rfl _ _ w.heap.size 61 _ (0, 0) _ rfl (heap_alloc_new _ _) und61 rfl (size61 _ rfl)) rfl ⟨rfl, (Below.refl _ _).alloc (Nat.le_refl _) _⟩
set_option maxRecDepth 100000 in
set_option maxHeartbeats 1000000 in
theorem Numbers_any (w : World) : Calls Tryd.prog 44 #[] w fun e w' => e = .returned (wordsV roundsL) ∧ Below w.heap.size w w' := by
  obtain ⟨i74, hi74, hz74, _, _⟩ := info_parts info74
  go_enter Tryd.func44, Tryd.ntmps44
  go_upto_region 1 with (refine wpList_alloc0 rfl 74 rfl zeros64 (.agg zeros64) i74 hi74 hz74 rfl ?_)
  simp only [Act.put, List.setIfInBounds_toArray, List.set_cons_zero]
  have hz : ((roundsL.map fun x => (x.toNat : Int)).map (Value.int .u32)).toArray = (roundsL.map u32V).toArray := by rw [List.map_map]; rfl
  have hone : (roundsL.map u32V).toArray.all (·.oneCell') = true := all_oneCell_toArray (fun v hv => by obtain ⟨x, _, rfl⟩ := List.mem_map.1 hv; rfl)
  have hsz : (roundsL.map u32V).toArray.size = 64 := rfl
  have hparts : ∀ l : List (Nat × Operand), l = ((roundsL.map fun x => (x.toNat : Int)).zipIdx 0).map (fun x => (x.2, Operand.const (Value.int .u32 x.1))) → l = ((roundsL.map fun x => (x.toNat : Int)).zipIdx 0).map (fun x => (x.2, Operand.const (Value.int .u32 x.1))) := fun _ h => h
  have hW : wordsV roundsL = .agg (roundsL.map u32V).toArray := rfl
  have HW := Lib.hid hW
  clear hW hparts
  generalize (roundsL.map u32V).toArray = NZ at *
  go_wp2_with (first | (refine wpList_buildFlatArr rfl 74 54 64 _ rfl .u32 (roundsL.map fun x => (x.toNat : Int)) und74 (by kernel_rfl) (by kernel_rfl) (by kernel_rfl) ?_; rw [hz]) | (refine wpList_store_row rfl 74 (.tmp 0) (.tmp 1) rfl w.heap.size _ rfl rfl 74 zeros64 (heap_alloc_new _ _) (size74 _ hsz) (by rw [hsz]; rfl) hone ?_))
  refine bodyPost_ret (results_cell_row rfl _ _ w.heap.size 74 _ (0, 0) _ rfl (setRow_heap _ _ _ _ _ _ (heap_alloc_new _ _)) und74 rfl (size74 _ hsz)) rfl ⟨by rw [HW.out], Below.setRow ((Below.refl _ _).alloc (Nat.le_refl _) _) (Nat.le_refl _) _⟩
theorem KeptIn.setRow {S : Nat → Prop} {a w : World} (h : KeptIn S a w) {g : Nat} (hg : ¬ S g) (cs : Array Value) : KeptIn S a (w.setRow g cs) :=
  h.trans ⟨rfl, rfl, rfl, by simp, fun k hk => setRow_other w g k cs (fun e => hg (e ▸ hk))⟩
theorem w_stVr (z : St) : (bits BinOp.xor IntKind.u32 (((ror32 z.a 2).toNat ^^^ (ror32 z.a 13).toNat : Nat) : Int) ((ror32 z.a 22).toNat : Int) +
    bits BinOp.xor IntKind.u32 (bits BinOp.xor IntKind.u32 ((z.a.toNat &&& z.b.toNat : Nat) : Int) ((z.a.toNat &&& z.c.toNat : Nat) : Int)) ((z.b.toNat &&& z.c.toNat : Nat) : Int)) % 4294967296 = ((stV z).toNat : Int) := by
  rw [← UInt32.toNat_xor, ← UInt32.toNat_and, ← UInt32.toNat_and, ← UInt32.toNat_and, w_xor, w_xor, w_xor, w_add]
  rfl
set_option maxRecDepth 100000 in
set_option maxHeartbeats 4000000 in
theorem RBlock_any (s : St) (A : Option Addr) (len cap : Nat) (bs : List UInt8) (w : World) (hr : Rd w 1 A len (bs.map byteV)) (hlen : 64 ≤ len) :
    Calls Tryd.prog 36 #[.agg (stArr s), .slice A len cap] w fun e w' => e = .returned (.agg (stArr (stBlock s bs))) ∧ Below w.heap.size w w' := by
  obtain ⟨i74, hi74, hz74, _, _⟩ := info_parts info74
  obtain ⟨i61, hi61, hz61, _, _⟩ := info_parts info61
  have hle := hr.le
  go_enter Tryd.func36, Tryd.ntmps36
  go_upto_region 1 with (refine wpList_alloc0 rfl 61 rfl zeros8 (.agg zeros8) i61 hi61 hz61 rfl ?_; simp only [Act.put, List.setIfInBounds_toArray, List.set_cons_succ, List.set_cons_zero])
  obtain ⟨w1, hw1⟩ : ∃ w1, w1 = (w.alloc (.cells (stArr s) 61)).alloc (.cells zeros8 61) := ⟨_, rfl⟩
  have hB1 : Below w.heap.size w w1 := by rw [hw1]; exact ((Below.refl _ _).alloc (Nat.le_refl _) _).alloc (by simp) _
  have hs1 : w1.heap.size = w.heap.size + 2 := by rw [hw1]; simp
  have hS1 : Blk w1 w.heap.size 61 (stArr s) := by rw [hw1]; exact (Blk.new _ _ _).alloc _
  have hO1 : Blk w1 (w.heap.size + 1) 61 zeros8 := by
    rw [hw1]
    have := Blk.new (w.alloc (.cells (stArr s) 61)) 61 zeros8
    rwa [World.size_alloc] at this
  rw [World.size_alloc, ← hw1]
  have hr1 := hr.below hB1
  have Hs1 := Lib.hid hs1
  have HB1 := Lib.hid hB1
  have HO1 := Lib.hid hO1
  have HS1 := Lib.hid hS1
  have Hr1 := Lib.hid hr1
  clear hw1 hs1 hB1 hO1 hr hr1 hS1
  have hrs : ∀ w', Ext w1 w' → w'.rangeAt w.heap.size 0 [u32V s.a, u32V s.b, u32V s.c, u32V s.d, u32V s.e, u32V s.f, u32V s.g, u32V s.h] := fun w' hw' => Blk.range (HS1.out.below (ext_below hw') HS1.out.lt)
  have Hrs := Lib.hid hrs
  clear hrs
  refine wp_region_reads [0, 3] 8 (by kernel_rfl) (by kernel_rfl) (fun _ _ d _ _ h => by cases d <;> exact h) (by kernel_rfl) (by kernel_rfl) rfl ?_
  simp only [pickOps, List.getElem?_cons_zero, List.getElem?_cons_succ]
  repeat (first | go_big_quiet_step (fail) | (refine wpQuiet_load_mid rfl 61 _ rfl w.heap.size 0 rfl _ _ Hrs.out und61 rfl (by kernel_rfl) ?_; simp only [Act.put, List.setIfInBounds_toArray, List.set_cons_succ, List.set_cons_zero]))
  refine wpQuiet_nil ?_
  have kW : ∀ W, Below w1.heap.size w1 W → Calls Tryd.prog 43 #[.slice A len cap] W fun e w' => e = .returned (wordsV (words bs 48)) ∧ Below W.heap.size W w' := fun W hW => RWords_any A len cap bs W (Hr1.out.below hW) hlen
  have kN : ∀ W, Below w1.heap.size w1 W → Calls Tryd.prog 44 #[] W fun e w' => e = .returned (wordsV roundsL) ∧ Below W.heap.size W w' := fun W _ => Numbers_any W
  have hWs : ((words bs 48).map u32V).toArray.size = 64 := by simp [words_length]
  have hNs : (roundsL.map u32V).toArray.size = 64 := rfl
  have hW1 : ((words bs 48).map u32V).toArray.all (·.oneCell') = true := all_oneCell_toArray (fun v hv => by obtain ⟨x, _, rfl⟩ := List.mem_map.1 hv; rfl)
  have hN1 : (roundsL.map u32V).toArray.all (·.oneCell') = true := all_oneCell_toArray (fun v hv => by obtain ⟨x, _, rfl⟩ := List.mem_map.1 hv; rfl)
  unfold wordsV at kW kN
  obtain ⟨WA, hWA⟩ : ∃ WA, WA = ((words bs 48).map u32V).toArray := ⟨_, rfl⟩
  obtain ⟨NA, hNA⟩ : ∃ NA, NA = (roundsL.map u32V).toArray := ⟨_, rfl⟩
  rw [← hWA] at kW hWs hW1
  rw [← hNA] at kN hNs hN1
  have HWA := Lib.hid hWA
  have HNA := Lib.hid hNA
  clear hWA hNA
  refine wpAnyH_inv (R1I w1 (.agg (stArr s)) (.slice A len cap) (.pointer (some ⟨w.heap.size, 0, none⟩)) (.pointer (some ⟨w.heap.size + 1, 0, none⟩)) (.agg (stArr s)) WA NA (stArr s)) ?step ?fin ?sz 8 _ _ _ (Nat.le_of_eq (by kernel_rfl)) ?start
  case start => exact ⟨false, false, false, false, false, false, false, false, undef, undef, undef, undef, undef, 0, 0, 0, by kernel_rfl, rfl, (Below.refl _ w1).drew, (fun q => by cases q), (fun q => by cases q), (fun q => by cases q), (fun q => by cases q), (fun q => by cases q), (fun q => by cases q), (fun q => by cases q), (fun q => by cases q), (fun q => by cases q), (fun q => by cases q), (fun q => by cases q)⟩
  case sz =>
    rintro L a W ⟨l1, l2, l4, l5, l6, l7, l8, l9, v13, v14, v5, v6, v7, b5, b6, b7, rfl, _⟩
    rfl
  case step =>
    rintro L a W ⟨l1, l2, l4, l5, l6, l7, l8, l9, v13, v14, v5, v6, v7, b5, b6, b7, rfl, rfl, hB, h13, h14, h5, h6, h7, d56, d57, d67, f7, f8, f9⟩ i hun ⟨o, ho, hd⟩
    have hi : i < 10 := (Array.getElem?_eq_some_iff.1 ho).1
    have hi10 : i = 0 ∨ i = 1 ∨ i = 2 ∨ i = 3 ∨ i = 4 ∨ i = 5 ∨ i = 6 ∨ i = 7 ∨ i = 8 ∨ i = 9 := by omega
    rcases hi10 with rfl | rfl | rfl | rfl | rfl | rfl | rfl | rfl | rfl | rfl
    · exact Bool.noConfusion (show true = false from hun)
    · obtain rfl : l1 = false := hun
      refine wpOp_step rfl fun K hK => ?_
      unfold frB
      go_simp
      refine (kW W hB).mono ?_
      rintro e W' ⟨rfl, hb⟩
      have hB' := hB.trans (hb.mono hB.size)
      exact hK _ _ ⟨ext_of hB', true, l2, l4, l5, l6, l7, l8, l9, _, v14, v5, v6, v7, b5, b6, b7, rfl, rfl, hB', fun _ => rfl, h14, fun q => (h5 q).below hb, fun q => (h6 q).below hb, fun q => (h7 q).below hb, d56, d57, d67, f7, f8, f9⟩
    · obtain rfl : l2 = false := hun
      refine wpOp_step rfl fun K hK => ?_
      unfold frB
      go_simp
      refine (kN W hB).mono ?_
      rintro e W' ⟨rfl, hb⟩
      have hB' := hB.trans (hb.mono hB.size)
      exact hK _ _ ⟨ext_of hB', l1, true, l4, l5, l6, l7, l8, l9, v13, _, v5, v6, v7, b5, b6, b7, rfl, rfl, hB', h13, fun _ => rfl, fun q => (h5 q).below hb, fun q => (h6 q).below hb, fun q => (h7 q).below hb, d56, d57, d67, f7, f8, f9⟩
    · exact Bool.noConfusion (show true = false from hun)
    · obtain rfl : l4 = false := hun
      obtain rfl : l7 = false := by cases l7 with
        | false => rfl
        | true => cases f7 rfl
      refine wpOp_step rfl fun K hK => ?_
      refine step_alloc0 rfl 74 rfl zeros64 (.agg zeros64) i74 hi74 hz74 rfl ?_
      have hal : Below W.heap.size W (W.alloc (.cells zeros64 74)) := (Below.refl _ _).alloc (Nat.le_refl _) _
      have hB' := hB.alloc hB.size (.cells zeros64 74)
      exact hK _ _ ⟨ext_of hB', l1, l2, true, l5, l6, false, l8, l9, v13, v14, _, v6, v7, W.heap.size, b6, b7, rfl, rfl, hB', h13, h14, fun _ => VB.new hB.size _ _ _, fun q => (h6 q).below hal, fun q => (h7 q).below hal, (fun _ q => by have := (h6 q).2.2.1; omega), (fun _ q => by have := (h7 q).2.2.1; omega), d67, (fun q => by cases q), f8, f9⟩
    · obtain rfl : l5 = false := hun
      obtain rfl : l8 = false := by cases l8 with
        | false => rfl
        | true => cases f8 rfl
      refine wpOp_step rfl fun K hK => ?_
      refine step_alloc0 rfl 74 rfl zeros64 (.agg zeros64) i74 hi74 hz74 rfl ?_
      have hal : Below W.heap.size W (W.alloc (.cells zeros64 74)) := (Below.refl _ _).alloc (Nat.le_refl _) _
      have hB' := hB.alloc hB.size (.cells zeros64 74)
      exact hK _ _ ⟨ext_of hB', l1, l2, l4, true, l6, l7, false, l9, v13, v14, v5, _, v7, b5, W.heap.size, b7, rfl, rfl, hB', h13, h14, fun q => (h5 q).below hal, fun _ => VB.new hB.size _ _ _, fun q => (h7 q).below hal, (fun q _ => by have := (h5 q).2.2.1; omega), d57, (fun _ q => by have := (h7 q).2.2.1; omega), f7, (fun q => by cases q), f9⟩
    · obtain rfl : l6 = false := hun
      obtain rfl : l9 = false := by cases l9 with
        | false => rfl
        | true => cases f9 rfl
      refine wpOp_step rfl fun K hK => ?_
      refine step_alloc0 rfl 61 rfl zeros8 (.agg zeros8) i61 hi61 hz61 rfl ?_
      have hal : Below W.heap.size W (W.alloc (.cells zeros8 61)) := (Below.refl _ _).alloc (Nat.le_refl _) _
      have hB' := hB.alloc hB.size (.cells zeros8 61)
      exact hK _ _ ⟨ext_of hB', l1, l2, l4, l5, true, l7, l8, false, v13, v14, v5, v6, _, b5, b6, W.heap.size, rfl, rfl, hB', h13, h14, fun q => (h5 q).below hal, fun q => (h6 q).below hal, fun _ => VB.new hB.size _ _ _, d56, (fun q _ => by have := (h5 q).2.2.1; omega), (fun q _ => by have := (h6 q).2.2.1; omega), f7, f8, (fun q => by cases q)⟩
    · obtain rfl : l7 = false := hun
      obtain rfl := Option.some.inj ho
      obtain rfl : l4 = true := by cases l4 with
        | true => rfl
        | false => exact Bool.noConfusion (show false = true from hd)
      obtain rfl : l1 = true := by cases l1 with
        | true => rfl
        | false => exact Bool.noConfusion (show false = true from hd)
      obtain rfl : l2 = true := by cases l2 with
        | true => rfl
        | false => exact Bool.noConfusion (show false = true from hd)
      obtain rfl : l5 = true := by cases l5 with
        | true => rfl
        | false => exact Bool.noConfusion (show false = true from hd)
      obtain rfl : l6 = true := by cases l6 with
        | true => rfl
        | false => exact Bool.noConfusion (show false = true from hd)
      have hV := h5 rfl
      obtain ⟨rfl, hb1, hb2, C, hC, hCs, _⟩ := id hV
      obtain rfl := h13 rfl
      refine wpOp_step rfl fun K hK => ?_
      refine step_store_row rfl 74 (.tmp 5) (.tmp 13) rfl b5 WA rfl rfl 74 C hC (size74 _ hWs) (by rw [hCs, hWs]) hW1 ?_
      have hB' := Below.setRow hB hb1 WA
      exact hK _ _ ⟨ext_of hB', true, true, true, true, true, true, l8, l9, _, _, _, _, _, b5, b6, b7, rfl, rfl, hB', h13, h14, fun q => VB.set hV hWs, fun q => (h6 q).other (fun e => d56 rfl q e.symm) _, fun q => (h7 q).other (fun e => d57 rfl q e.symm) _, d56, d57, d67, fun _ => rfl, f8, f9⟩
    · obtain rfl : l8 = false := hun
      obtain rfl := Option.some.inj ho
      obtain rfl : l5 = true := by cases l5 with
        | true => rfl
        | false => exact Bool.noConfusion (show false = true from hd)
      obtain rfl : l2 = true := by cases l2 with
        | true => rfl
        | false => exact Bool.noConfusion (show false = true from hd)
      obtain rfl : l7 = true := by cases l7 with
        | true => rfl
        | false => exact Bool.noConfusion (show false = true from hd)
      obtain rfl : l1 = true := by cases l1 with
        | true => rfl
        | false => exact Bool.noConfusion (show false = true from hd)
      obtain rfl : l4 = true := by cases l4 with
        | true => rfl
        | false => exact Bool.noConfusion (show false = true from hd)
      obtain rfl : l6 = true := by cases l6 with
        | true => rfl
        | false => exact Bool.noConfusion (show false = true from hd)
      have hV := h6 rfl
      obtain ⟨rfl, hb1, hb2, C, hC, hCs, _⟩ := id hV
      obtain rfl := h14 rfl
      refine wpOp_step rfl fun K hK => ?_
      refine step_store_row rfl 74 (.tmp 6) (.tmp 14) rfl b6 NA rfl rfl 74 C hC (size74 _ hNs) (by rw [hCs, hNs]) hN1 ?_
      have hB' := Below.setRow hB hb1 NA
      exact hK _ _ ⟨ext_of hB', true, true, true, true, true, true, true, l9, _, _, _, _, _, b5, b6, b7, rfl, rfl, hB', h13, h14, fun q => (h5 q).other (d56 q rfl) _, fun q => VB.set hV hNs, fun q => (h7 q).other (fun e => d67 rfl q e.symm) _, d56, d57, d67, f7, fun _ => rfl, f9⟩
    · obtain rfl : l9 = false := hun
      obtain rfl := Option.some.inj ho
      obtain rfl : l6 = true := by cases l6 with
        | true => rfl
        | false => exact Bool.noConfusion (show false = true from hd)
      obtain rfl : l8 = true := by cases l8 with
        | true => rfl
        | false => exact Bool.noConfusion (show false = true from hd)
      obtain rfl : l1 = true := by cases l1 with
        | true => rfl
        | false => exact Bool.noConfusion (show false = true from hd)
      obtain rfl : l2 = true := by cases l2 with
        | true => rfl
        | false => exact Bool.noConfusion (show false = true from hd)
      obtain rfl : l4 = true := by cases l4 with
        | true => rfl
        | false => exact Bool.noConfusion (show false = true from hd)
      obtain rfl : l5 = true := by cases l5 with
        | true => rfl
        | false => exact Bool.noConfusion (show false = true from hd)
      obtain rfl : l7 = true := by cases l7 with
        | true => rfl
        | false => exact Bool.noConfusion (show false = true from hd)
      have hV := h7 rfl
      obtain ⟨rfl, hb1, hb2, C, hC, hCs, _⟩ := id hV
      refine wpOp_step rfl fun K hK => ?_
      refine step_store_row rfl 61 (.tmp 7) (.tmp 15) rfl b7 (stArr s) rfl rfl 61 C hC (size61 _ (show (stArr s).size = 8 from rfl)) (by rw [hCs, (show (stArr s).size = 8 from rfl)]) (stArr_one s) ?_
      have hB' := Below.setRow hB hb1 (stArr s)
      exact hK _ _ ⟨ext_of hB', true, true, true, true, true, true, true, true, _, _, _, _, _, b5, b6, b7, rfl, rfl, hB', h13, h14, fun q => (h5 q).other (d57 q rfl) _, fun q => (h6 q).other (d67 q rfl) _, fun q => VB.set hV (show (stArr s).size = 8 from rfl), d56, d57, d67, f7, f8, fun _ => rfl⟩
  case fin =>
    rintro L a W ⟨l1, l2, l4, l5, l6, l7, l8, l9, v13, v14, v5, v6, v7, b5, b6, b7, rfl, rfl, hB, h13, h14, h5, h6, h7, d56, d57, d67, f7, f8, f9⟩ hfin
    obtain rfl : l1 = true := by cases l1 with
      | true => rfl
      | false => exact Bool.noConfusion (show true = false from hfin 1 _ rfl rfl)
    obtain rfl : l2 = true := by cases l2 with
      | true => rfl
      | false => exact Bool.noConfusion (show true = false from hfin 2 _ rfl rfl)
    obtain rfl : l4 = true := by cases l4 with
      | true => rfl
      | false => exact Bool.noConfusion (show true = false from hfin 4 _ rfl rfl)
    obtain rfl : l5 = true := by cases l5 with
      | true => rfl
      | false => exact Bool.noConfusion (show true = false from hfin 5 _ rfl rfl)
    obtain rfl : l6 = true := by cases l6 with
      | true => rfl
      | false => exact Bool.noConfusion (show true = false from hfin 6 _ rfl rfl)
    obtain rfl : l7 = true := by cases l7 with
      | true => rfl
      | false => exact Bool.noConfusion (show true = false from hfin 7 _ rfl rfl)
    obtain rfl : l8 = true := by cases l8 with
      | true => rfl
      | false => exact Bool.noConfusion (show true = false from hfin 8 _ rfl rfl)
    obtain rfl : l9 = true := by cases l9 with
      | true => rfl
      | false => exact Bool.noConfusion (show true = false from hfin 9 _ rfl rfl)
    obtain rfl := h13 rfl
    obtain rfl := h14 rfl
    obtain ⟨rfl, c51, c52, C5, k5, _, e5⟩ := h5 rfl
    obtain ⟨rfl, c61, c62, C6, k6, _, e6⟩ := h6 rfl
    obtain ⟨rfl, c71, c72, C7, k7, _, e7⟩ := h7 rfl
    obtain rfl := e5 rfl
    obtain rfl := e6 rfl
    obtain rfl := e7 rfl
    have n56 := d56 rfl rfl
    have n57 := d57 rfl rfl
    have n67 := d67 rfl rfl
    unfold frB
    dsimp only
    have hkept0 : KeptIn (fun k => k < W.heap.size ∧ k ≠ b7) W W := KeptIn.refl _ _
    have hX0 : Blk W b7 61 (stArr (stRounds (words bs 48) s 0)) := k7
    have hHWA := HWA.out
    have hHNA := HNA.out
    have hWL := words_length bs 48
    have hcw : ∀ q, q < 64 → W.cell? ⟨b5, q, none⟩ = some (.int .u32 (((words bs 48).getD q 0).toNat : Int)) := fun q hq => by
      rw [k5.cell q, hHWA, List.getElem?_toArray, List.getElem?_map, List.getD_eq_getElem?_getD, List.getElem?_eq_getElem (by omega)]
      rfl
    have hck : ∀ q, q < 64 → W.cell? ⟨b6, q, none⟩ = some (.int .u32 ((roundsL.getD q 0).toNat : Int)) := fun q hq => by
      rw [k6.cell q, hHNA, List.getElem?_toArray, List.getElem?_map, List.getD_eq_getElem?_getD, List.getElem?_eq_getElem (by exact hq)]
      rfl
    have hbl : stBlock s bs = stAdd s (stRounds (words bs 48) s 64) := rfl
    have Hbl := Lib.hid hbl
    generalize words bs 48 = WS at *
    have Hcw := Lib.hid hcw
    have Hck := Lib.hid hck
    have HBW := Lib.hid (HB1.out.trans (hB.mono HB1.out.size))
    have HS := Lib.hid (HS1.out.below hB HS1.out.lt)
    have HO := Lib.hid (HO1.out.below hB HO1.out.lt)
    have hlo : w.heap.size + 1 < w1.heap.size := HO1.out.lt
    clear hfin h13 h14 h5 h6 h7 d56 d57 d67 f7 f8 f9 e5 e6 e7 k5 k6 k7 hHWA hHNA hWL hcw hck hbl kW kN hWs hNs hW1 hN1 HWA HNA Hrs
    go_wp2_with fail
    go_loopw [8, 9, 10] (fun t _ _ wr => ∃ q : Nat, q ≤ 64 ∧ t = .int .i64 q ∧ Blk wr b7 61 (stArr (stRounds WS s q)) ∧ KeptIn (fun k => k < W.heap.size ∧ k ≠ b7) W wr) (fun t _ _ _ => 64 - (intOf t).toNat)
    case atStart => exact ⟨0, by omega, rfl, hX0, hkept0⟩
    case round =>
      obtain ⟨q, hq, rfl, hX, hK⟩ := hrel
      clear hX0 hkept0
      by_cases hlt : q < 64
      · have cw := (hK.cell (p := ⟨b5, q, none⟩) ⟨c52, n57⟩).trans (Hcw.out q hlt)
        have ck := (hK.cell (p := ⟨b6, q, none⟩) ⟨c62, n67⟩).trans (Hck.out q hlt)
        have hst : stRounds WS s (q + 1) = stStep (stRounds WS s q) (roundsL.getD q 0) (WS.getD q 0) := rfl
        generalize stRounds WS s q = z at *
        generalize roundsL.getD q 0 = kq at *
        generalize WS.getD q 0 = wq at *
        have x0 : wr.cell? ⟨b7, 0, none⟩ = some (.int .u32 (z.a.toNat : Int)) := hX.cell 0
        have x1 : wr.cell? ⟨b7, 1, none⟩ = some (.int .u32 (z.b.toNat : Int)) := hX.cell 1
        have x2 : wr.cell? ⟨b7, 2, none⟩ = some (.int .u32 (z.c.toNat : Int)) := hX.cell 2
        have x3 : wr.cell? ⟨b7, 3, none⟩ = some (.int .u32 (z.d.toNat : Int)) := hX.cell 3
        have x4 : wr.cell? ⟨b7, 4, none⟩ = some (.int .u32 (z.e.toNat : Int)) := hX.cell 4
        have x5 : wr.cell? ⟨b7, 5, none⟩ = some (.int .u32 (z.f.toNat : Int)) := hX.cell 5
        have x6 : wr.cell? ⟨b7, 6, none⟩ = some (.int .u32 (z.g.toNat : Int)) := hX.cell 6
        have x7 : wr.cell? ⟨b7, 7, none⟩ = some (.int .u32 (z.h.toNat : Int)) := hX.cell 7
        have Hst := Lib.hid hst
        have HX := Lib.hid hX
        have HK := Lib.hid hK
        clear hst hX hK
        have wx := w_xor
        have wan := w_and
        have hC1 : ∀ a, Calls Tryd.prog 45 #[.int .u32 (z.e.toNat : Int), .int .i64 6] (wr.drewN a) fun e w'' => e = .returned (.int .u32 ((ror32 z.e 6).toNat : Int)) ∧ ∃ m, w'' = wr.drewN m := fun a => Calls.quiet_of (RRor_any z.e 6 (by omega) (by omega) _)
        have hC2 : ∀ a, Calls Tryd.prog 45 #[.int .u32 (z.e.toNat : Int), .int .i64 11] (wr.drewN a) fun e w'' => e = .returned (.int .u32 ((ror32 z.e 11).toNat : Int)) ∧ ∃ m, w'' = wr.drewN m := fun a => Calls.quiet_of (RRor_any z.e 11 (by omega) (by omega) _)
        have hC3 : ∀ a, Calls Tryd.prog 45 #[.int .u32 (z.e.toNat : Int), .int .i64 25] (wr.drewN a) fun e w'' => e = .returned (.int .u32 ((ror32 z.e 25).toNat : Int)) ∧ ∃ m, w'' = wr.drewN m := fun a => Calls.quiet_of (RRor_any z.e 25 (by omega) (by omega) _)
        go_wp2_with fail
        go_quiet (first | with_reducible exact hC1 _ | with_reducible exact hC2 _ | with_reducible exact hC3 _)
        rw [w_stU]
        generalize hu : stU z kq wq = uu
        have Hu := Lib.hid hu
        clear hu hC1 hC2 hC3 cw ck
        obtain ⟨wn, hwn⟩ : ∃ wn, wn = wr.drewN nq := ⟨_, rfl⟩
        rw [← hwn]
        replace x0 : wn.cell? ⟨b7, 0, none⟩ = some (.int .u32 (z.a.toNat : Int)) := by rw [hwn]; exact x0
        replace x1 : wn.cell? ⟨b7, 1, none⟩ = some (.int .u32 (z.b.toNat : Int)) := by rw [hwn]; exact x1
        replace x2 : wn.cell? ⟨b7, 2, none⟩ = some (.int .u32 (z.c.toNat : Int)) := by rw [hwn]; exact x2
        replace x3 : wn.cell? ⟨b7, 3, none⟩ = some (.int .u32 (z.d.toNat : Int)) := by rw [hwn]; exact x3
        replace x4 : wn.cell? ⟨b7, 4, none⟩ = some (.int .u32 (z.e.toNat : Int)) := by rw [hwn]; exact x4
        replace x5 : wn.cell? ⟨b7, 5, none⟩ = some (.int .u32 (z.f.toNat : Int)) := by rw [hwn]; exact x5
        replace x6 : wn.cell? ⟨b7, 6, none⟩ = some (.int .u32 (z.g.toNat : Int)) := by rw [hwn]; exact x6
        replace x7 : wn.cell? ⟨b7, 7, none⟩ = some (.int .u32 (z.h.toNat : Int)) := by rw [hwn]; exact x7
        replace HX : RowKit.Hid (Blk wn b7 61 (stArr z)) := by rw [hwn]; exact HX
        replace HK : RowKit.Hid (KeptIn (fun k => k < W.heap.size ∧ k ≠ b7) W wn) := by rw [hwn]; exact Lib.hid ⟨HK.out.os, HK.out.tape, HK.out.output, HK.out.size, HK.out.block⟩
        clear hwn
        have hD1 : ∀ a, Calls Tryd.prog 45 #[.int .u32 (z.a.toNat : Int), .int .i64 2] (wn.drewN a) fun e w'' => e = .returned (.int .u32 ((ror32 z.a 2).toNat : Int)) ∧ ∃ m, w'' = wn.drewN m := fun a => Calls.quiet_of (RRor_any z.a 2 (by omega) (by omega) _)
        have hD2 : ∀ a, Calls Tryd.prog 45 #[.int .u32 (z.a.toNat : Int), .int .i64 13] (wn.drewN a) fun e w'' => e = .returned (.int .u32 ((ror32 z.a 13).toNat : Int)) ∧ ∃ m, w'' = wn.drewN m := fun a => Calls.quiet_of (RRor_any z.a 13 (by omega) (by omega) _)
        have hD3 : ∀ a, Calls Tryd.prog 45 #[.int .u32 (z.a.toNat : Int), .int .i64 22] (wn.drewN a) fun e w'' => e = .returned (.int .u32 ((ror32 z.a 22).toNat : Int)) ∧ ∃ m, w'' = wn.drewN m := fun a => Calls.quiet_of (RRor_any z.a 22 (by omega) (by omega) _)
        go_wp2_with fail
        go_quiet (first | with_reducible exact hD1 _ | with_reducible exact hD2 _ | with_reducible exact hD3 _)
        rw [w_stVr]
        generalize hv : stV z = vv
        have Hv := Lib.hid hv
        clear hv hD1 hD2 hD3 wx wan
        obtain ⟨wo, hwo⟩ : ∃ wo, wo = wn.drewN nq := ⟨_, rfl⟩
        rw [← hwo]
        replace x0 : wo.cell? ⟨b7, 0, none⟩ = some (.int .u32 (z.a.toNat : Int)) := by rw [hwo]; exact x0
        replace x1 : wo.cell? ⟨b7, 1, none⟩ = some (.int .u32 (z.b.toNat : Int)) := by rw [hwo]; exact x1
        replace x2 : wo.cell? ⟨b7, 2, none⟩ = some (.int .u32 (z.c.toNat : Int)) := by rw [hwo]; exact x2
        replace x3 : wo.cell? ⟨b7, 3, none⟩ = some (.int .u32 (z.d.toNat : Int)) := by rw [hwo]; exact x3
        replace x4 : wo.cell? ⟨b7, 4, none⟩ = some (.int .u32 (z.e.toNat : Int)) := by rw [hwo]; exact x4
        replace x5 : wo.cell? ⟨b7, 5, none⟩ = some (.int .u32 (z.f.toNat : Int)) := by rw [hwo]; exact x5
        replace x6 : wo.cell? ⟨b7, 6, none⟩ = some (.int .u32 (z.g.toNat : Int)) := by rw [hwo]; exact x6
        replace x7 : wo.cell? ⟨b7, 7, none⟩ = some (.int .u32 (z.h.toNat : Int)) := by rw [hwo]; exact x7
        replace HX : RowKit.Hid (Blk wo b7 61 (stArr z)) := by rw [hwo]; exact HX
        replace HK : RowKit.Hid (KeptIn (fun k => k < W.heap.size ∧ k ≠ b7) W wo) := by rw [hwo]; exact Lib.hid ⟨HK.out.os, HK.out.tape, HK.out.output, HK.out.size, HK.out.block⟩
        clear hwo
        obtain ⟨CN, hCN⟩ : ∃ CN : Array Value, #[.int .u32 (((uu.toNat : Int) + (vv.toNat : Int)) % 4294967296), .int .u32 (z.a.toNat : Int), .int .u32 (z.b.toNat : Int), .int .u32 (z.c.toNat : Int), .int .u32 (((z.d.toNat : Int) + (uu.toNat : Int)) % 4294967296), .int .u32 (z.e.toNat : Int), .int .u32 (z.f.toNat : Int), .int .u32 (z.g.toNat : Int)] = CN := ⟨_, rfl⟩
        have hcn : CN = stArr (stStep z kq wq) := by
          rw [← hCN, w_add, w_add]
          unfold stStep
          rw [Hu.out, Hv.out]
          rfl
        have hcz : CN.size = 8 := by rw [← hCN]; rfl
        have hcs : (stArr z).size = CN.size := by rw [hcz]; rfl
        have hco : CN.all (·.oneCell') = true := by rw [hcn]; exact stArr_one _
        have hBk : wo.heap[b7]? = some (.cells (stArr z) 61 (0, 0)) := HX.out
        have Hcn := Lib.hid hcn
        clear hcn Hu Hv Hck Hcw HBW HS HO
        go_wp2_with (refine wpList_store_row rfl 61 (.tmp 7) (.tmp 103) rfl b7 CN rfl (by first | rfl | (rw [← hCN]; rfl)) 61 (stArr z) hBk (size61 _ hcz) hcs hco ?_)
        have hX2 : Blk (wo.setRow b7 CN) b7 61 (stArr (stRounds WS s (q + 1))) := by
          rw [Hst.out, ← Hcn.out]
          exact setRow_heap _ _ _ _ _ _ hBk
        exact ⟨⟨q + 1, by omega, by go_num, hX2, HK.out.setRow (fun h => h.2 rfl) _⟩, by simp [intOf]; omega⟩
      · obtain rfl : q = 64 := by omega
        have hsW := hK.size
        have hSr : Blk wr w.heap.size 61 (stArr s) := HS.out.keptIn hK ⟨by omega, by omega⟩
        have hOr : Blk wr (w.heap.size + 1) 61 zeros8 := HO.out.keptIn hK ⟨by omega, by omega⟩
        have hBr : Below w.heap.size w wr := HBW.out.trans (hK.below (fun k hk => ⟨by omega, by omega⟩))
        have hbl := Hbl.out
        generalize stRounds WS s 64 = z at *
        obtain ⟨ys, hys⟩ : ∃ ys : List UInt32, ys = [z.a, z.b, z.c, z.d, z.e, z.f, z.g, z.h] := ⟨_, rfl⟩
        obtain ⟨xs, hxs⟩ : ∃ xs : List UInt32, xs = [s.a, s.b, s.c, s.d, s.e, s.f, s.g, s.h] := ⟨_, rfl⟩
        have hyl : ys.length = 8 := by rw [hys]; rfl
        have hxl : xs.length = 8 := by rw [hxs]; rfl
        have hxc : ∀ q, q < 8 → wr.cell? ⟨b7, q, none⟩ = some (.int .u32 ((ys.getD q 0).toNat : Int)) := fun q hq => by
          have h1 : stArr z = (ys.map u32V).toArray := by rw [hys]; rfl
          rw [hX.cell q, h1, List.getElem?_toArray, List.getElem?_map, List.getD_eq_getElem?_getD, List.getElem?_eq_getElem (by omega)]
          rfl
        have h40 : ∃ zs : List UInt32, zs.length = 8 ∧ (∀ j, j < 8 → zs.getD j 0 = if j < 0 then xs.getD j 0 + ys.getD j 0 else xs.getD j 0) ∧ Blk wr w.heap.size 61 (zs.map u32V).toArray := ⟨xs, hxl, fun j _ => by simp, by rw [hxs]; exact hSr⟩
        have Hys := Lib.hid hys
        have Hxs := Lib.hid hxs
        have Hbl2 := Lib.hid hbl
        have Hxc := Lib.hid hxc
        have Hor := Lib.hid hOr
        have HBr := Lib.hid hBr
        have hsr : w.heap.size + 1 < wr.heap.size := hOr.lt
        have hb7 : b7 < wr.heap.size := hX.lt
        have hk0 : KeptIn (fun k => k < wr.heap.size ∧ k ≠ w.heap.size) wr wr := KeptIn.refl _ _
        clear hys hxs hbl hxc hOr hBr hSr hX hK Hbl Hck Hcw HBW HS HO
        obtain ⟨wf, hwf⟩ : ∃ wf, wf = wr := ⟨_, rfl⟩
        subst hwf
        rw [show ((64 : Nat) : Int) = 64 from rfl]
        go_wp2_with fail
        go_loopw [11] (fun t wx => ∃ n : Nat, n ≤ 8 ∧ t = .int .i64 n ∧ (∃ zs : List UInt32, zs.length = 8 ∧ (∀ j, j < 8 → zs.getD j 0 = if j < n then xs.getD j 0 + ys.getD j 0 else xs.getD j 0) ∧ Blk wx w.heap.size 61 (zs.map u32V).toArray) ∧ KeptIn (fun k => k < wf.heap.size ∧ k ≠ w.heap.size) wf wx) (fun t _ => 8 - (intOf t).toNat)
        case atStart => exact ⟨0, Nat.zero_le _, rfl, h40, hk0⟩
        case round =>
          obtain ⟨n, hn, rfl, ⟨zs, hzl, hzs, hZ⟩, hK⟩ := hrel
          by_cases hlt : n < 8
          · have hzn := hzs n hlt
            rw [if_neg (by omega)] at hzn
            have c0 : wr.cell? ⟨w.heap.size, n, none⟩ = some (.int .u32 ((xs.getD n 0).toNat : Int)) := by
              rw [hZ.cell n, List.getElem?_toArray, List.getElem?_map, List.getElem?_eq_getElem (by omega), ← hzn, List.getD_eq_getElem?_getD, List.getElem?_eq_getElem (by omega)]
              rfl
            have f0 : wr.frozen? ⟨w.heap.size, n, none⟩ = false := hZ.frozen n
            have c7 := (hK.cell (p := ⟨b7, n, none⟩) ⟨hb7, by show b7 ≠ _; omega⟩).trans (Hxc.out n hlt)
            have hs1 : (xs.getD n 0 + ys.getD n 0) = (fun n => xs.getD n 0 + ys.getD n 0) n := rfl
            have Hs1 := Lib.hid hs1
            clear hs1
            generalize xs.getD n 0 = xq at *
            generalize ys.getD n 0 = yq at *
            have HZ := Lib.hid hZ
            have HK := Lib.hid hK
            have HZS := Lib.hid hzs
            clear hZ hK hzs hzn h40 hk0 hyl hxl
            go_wp2_with fail
            go_region
            go_wp2
            rw [w_add]
            have hnew : Blk (wr.setCell ⟨w.heap.size, n, none⟩ (u32V (xq + yq))).drew w.heap.size 61 ((zs.set n (xq + yq)).map u32V).toArray := by
              refine (heap_setCell_same wr w.heap.size n _ 61 (u32V (xq + yq)) HZ.out).trans ?_
              rw [List.setIfInBounds_toArray, List.map_set]
            have hk5 := HK.out.setAt (p := ⟨w.heap.size, n, none⟩) (by simp) (u32V (xq + yq))
            refine ⟨⟨n + 1, by omega, by go_num, ⟨zs.set n (xq + yq), by rw [List.length_set, hzl], ?_, hnew⟩, ⟨hk5.os, hk5.tape, hk5.output, hk5.size, hk5.block⟩⟩, by simp [intOf]; omega⟩
            intro j hj
            rw [List.getD_eq_getElem?_getD, List.getElem?_set]
            by_cases hjq : n = j
            · subst hjq
              rw [if_pos rfl, if_pos (by omega), if_pos (by omega)]
              exact Hs1.out
            · rw [if_neg hjq, ← List.getD_eq_getElem?_getD, HZS.out j hj]
              by_cases hj2 : j < n
              · rw [if_pos hj2, if_pos (by omega)]
              · rw [if_neg hj2, if_neg (by omega)]
          · obtain rfl : n = 8 := by omega
            have hz8 := cells8 s z zs xs ys hzl Hxs.out Hys.out hzs
            have hres : (zs.map u32V).toArray = stArr (stBlock s bs) := by rw [Hbl2.out, hz8]; rfl
            have hO2 : Blk wr (w.heap.size + 1) 61 zeros8 := Hor.out.keptIn hK ⟨by omega, by omega⟩
            have hBf : Below w.heap.size w wr := HBr.out.trans (hK.below (fun k hk => ⟨by omega, by omega⟩))
            have hsz8 : (zs.map u32V).toArray.size = 8 := by simp [hzl]
            have hone8 : (zs.map u32V).toArray.all (·.oneCell') = true := by rw [hres]; exact stArr_one _
            have Hres := Lib.hid hres
            have HO2 := Lib.hid hO2
            have HBf := Lib.hid hBf
            have HZ := Lib.hid hZ
            clear hres hO2 hBf hZ hK hzs hz8 h40 hk0
            generalize (zs.map u32V).toArray = ZA at *
            go_wp2_with (first | (refine wpList_load_row rfl 61 (.tmp 2) rfl w.heap.size rfl 61 _ (0, 0) _ HZ.out und61 rfl (size61 _ hsz8) ?_) | (refine wpList_store_row rfl 61 (.tmp 4) (.tmp 116) rfl (w.heap.size + 1) _ rfl rfl 61 _ HO2.out (size61 _ hsz8) (by rw [hsz8]; rfl) hone8 ?_))
            refine bodyPost_ret (results_cell_row rfl _ _ (w.heap.size + 1) 61 _ (0, 0) _ rfl (setRow_heap _ _ _ _ _ _ HO2.out) und61 rfl (size61 _ hsz8)) rfl ⟨by rw [Hres.out], Below.setRow HBf.out (by omega) _⟩
end Go.Proofs.YtgblkaoioeceiaaDoor
