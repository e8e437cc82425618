/- The reference's block: its variables. The reference's block. The reference's Sum. -/
import Derived.Test.YtfdhiilhjfbehaaDoorH5
import Derived.Test.YtfdhiilhjfbehaaDoorH1
import Derived.Test.YtfdhiilhjfbehaaDoorH4
namespace Go.Proofs.YtfdhiilhjfbehaaDoor
section
open Go.RowKit Go.Sort

def frB (sv sl p2 p4 v5 v6 v7 v13 v14 v15 : Value) : Act := { tmps := #[sv, sl, p2, undef, p4, v5, v6, v7, undef, undef, undef, undef, sl, v13, v14, v15, undef, undef, undef, undef, undef, undef, undef, undef, undef, undef, undef, undef, undef, undef, undef, undef, undef, undef, undef, undef, undef, undef, undef, undef, undef, undef, undef, undef, undef, undef, undef, undef, undef, undef, undef, undef, undef, undef, undef, undef, undef, undef, undef, undef, undef, undef, undef, undef, undef, undef, undef, undef, undef, undef, undef, undef, undef, undef, undef, undef, undef, undef, undef, undef, undef, undef, undef, undef, undef, undef, undef, undef, undef, undef, undef, undef, undef, undef, undef, undef, undef, undef, undef, undef, undef, undef, undef, undef, undef, undef, undef, undef, undef, undef, undef, undef, undef, undef, undef, undef, undef], defers := [] }
def VB (W : World) (base : Nat) (v : Value) (b : Nat) (t : TypeId) (n : Nat) (fin : Bool) (C0 : Array Value) : Prop :=
  v = .pointer (some ⟨b, 0, none⟩) ∧ base ≤ b ∧ b < W.heap.size ∧ ∃ C, Blk W b t C ∧ C.size = n ∧ (fin = true → C = C0)
theorem VB.below {W W' : World} {base b n : Nat} {v : Value} {t : TypeId} {fin : Bool} {C0 : Array Value} (h : VB W base v b t n fin C0) (hb : Below W.heap.size W W') : VB W' base v b t n fin C0 := by
  obtain ⟨h1, h2, h3, C, h4, h5⟩ := h
  exact ⟨h1, h2, Nat.lt_of_lt_of_le h3 hb.size, C, h4.below hb h3, h5⟩
theorem VB.other {W : World} {base b n g : Nat} {v : Value} {t : TypeId} {fin : Bool} {C0 : Array Value} (h : VB W base v b t n fin C0) (hne : b ≠ g) (cs : Array Value) : VB (W.setRow g cs) base v b t n fin C0 := by
  obtain ⟨h1, h2, h3, C, h4, h5⟩ := h
  exact ⟨h1, h2, by simpa using h3, C, (setRow_other W g b cs hne).trans h4, h5⟩
theorem VB.new {W : World} {base : Nat} (hb : base ≤ W.heap.size) (Z : Array Value) (t : TypeId) (C0 : Array Value) : VB (W.alloc (.cells Z t)) base (.pointer (some ⟨W.heap.size, 0, none⟩)) W.heap.size t Z.size false C0 :=
  ⟨rfl, hb, by simp, Z, Blk.new _ _ _, rfl, fun h => by cases h⟩
theorem VB.set {W : World} {base b n : Nat} {v : Value} {t : TypeId} {fin : Bool} {C0 : Array Value} (h : VB W base v b t n fin C0) (hn : C0.size = n) : VB (W.setRow b C0) base v b t n true C0 := by
  obtain ⟨h1, h2, h3, C, h4, h5⟩ := h
  exact ⟨h1, h2, by simpa using h3, C0, setRow_heap _ _ _ _ _ _ h4, hn, fun _ => rfl⟩

def R1I (w1 : World) (sv sl p2 p4 v15 : Value) (WA NA SA : Array Value) (L : Array Bool) (a : Act) (W : World) : Prop :=
  ∃ (l1 l2 l4 l5 l6 l7 l8 l9 : Bool) (v13 v14 v5 v6 v7 : Value) (b5 b6 b7 : Nat), L = #[true, l1, l2, true, l4, l5, l6, l7, l8, l9] ∧ a = frB sv sl p2 p4 v5 v6 v7 v13 v14 v15 ∧ Below w1.heap.size w1 W ∧
    (l1 = true → v13 = .agg WA) ∧ (l2 = true → v14 = .agg NA) ∧
    (l4 = true → VB W w1.heap.size v5 b5 107 64 l7 WA) ∧ (l5 = true → VB W w1.heap.size v6 b6 107 64 l8 NA) ∧ (l6 = true → VB W w1.heap.size v7 b7 102 8 l9 SA) ∧
    (l4 = true → l5 = true → b5 ≠ b6) ∧ (l4 = true → l6 = true → b5 ≠ b7) ∧ (l5 = true → l6 = true → b6 ≠ b7) ∧ (l7 = true → l4 = true) ∧ (l8 = true → l5 = true) ∧ (l9 = true → l6 = true)

section
variable {P : Program} {ops : Array Oper} {Q : Exit → Act → World → Prop} {o : Oper} {a : Act} {w : World} {K : Act → World → Prop} {E : Prop}
theorem step_alloc0 (hg : o.guard = none) (t : TypeId) (ho : o.op = .alloc t) (Z : Array Value) (z : Value) (i : TypeInfo) (hi : P.info? t = some i) (hz : i.zero = some z) (hc : z.cells = Z)
    (h : K (a.put o.dst (.pointer (some ⟨w.heap.size, 0, none⟩))) (w.alloc (.cells Z t))) : if Region.wanted o (yielded ops a.tmps) = true then Oper.wp P o a w K Q else E := by
  have hw : Region.wanted o (yielded ops a.tmps) = true := by simp [Region.wanted, hg]
  rw [if_pos hw]
  subst hc
  unfold Oper.wp execOp
  simp only [ho, Sem.run_bind, Instr.alloc, zeroValue, typeInfo, newVar, newRow, run_newObj_alloc, Sem.run_pure, Result.andThen_ok]
  simp [hi, hz]
  exact h
theorem step_store_row (hg : o.guard = none) (ty : TypeId) (x y : Operand) (ho : o.op = .store ty x y)
    (g : Nat) (cells : Array Value) (hx : a.eval x = .pointer (some ⟨g, 0, none⟩)) (hy : a.eval y = .agg cells)
    (t : TypeId) (old : Array Value) (hgp : w.heap[g]? = some (.cells old t (0, 0))) (hi : (P.info? ty).map (·.size) = some cells.size)
    (hold : old.size = cells.size) (h1 : cells.all (·.oneCell') = true)
    (h : K (a.put o.dst undef) (w.setRow g cells)) : if Region.wanted o (yielded ops a.tmps) = true then Oper.wp P o a w K Q else E := by
  have hw : Region.wanted o (yielded ops a.tmps) = true := by simp [Region.wanted, hg]
  rw [if_pos hw]
  exact wp_store_row ty x y ho g cells hx hy t old hgp hi hold h1 h
end
def zeros8 : Array Value := (List.replicate 8 (Value.int .u32 0)).toArray
theorem info61 : (Tryd.prog.info? 102).map (fun i => (i.zero, i.size, i.bytes)) = some (some (.agg zeros8), 8, 32) := by kernel_rfl
theorem stArr_one (s : St) : (stArr s).all (·.oneCell') = true := by
  show ([u32V s.a, u32V s.b, u32V s.c, u32V s.d, u32V s.e, u32V s.f, u32V s.g, u32V s.h].toArray).all (·.oneCell') = true
  exact all_oneCell_toArray (fun v hv => by simp at hv; rcases hv with rfl | rfl | rfl | rfl | rfl | rfl | rfl | rfl <;> rfl)
end

section
open Go.RowKit Go.Sort

theorem infoN : (Tryd.prog.info? 78).map (fun i => (i.zero, i.size, i.bytes)) = some (some (.int .u32 0), 1, 4) := by kernel_rfl
set_option maxRecDepth 100000 in
set_option maxHeartbeats 1000000 in
theorem Starts_any (w : World) : Calls Tryd.prog 64 #[] w fun e w' => e = .returned (.agg (stArr stInit)) ∧ Below w.heap.size w w' := by
  go_enter Tryd.func64, Tryd.ntmps64
  go_wp2
  refine bodyPost_ret (results_cell_row rfl _ _ w.heap.size 102 _ (0, 0) _ rfl (heap_alloc_new _ _) und61 rfl (size61 _ rfl)) rfl ⟨rfl, (Below.refl _ _).alloc (Nat.le_refl _) _⟩
set_option maxRecDepth 100000 in
set_option maxHeartbeats 1000000 in
theorem Numbers_any (w : World) : Calls Tryd.prog 71 #[] w fun e w' => e = .returned (wordsV roundsL) ∧ Below w.heap.size w w' := by
  obtain ⟨i74, hi74, hz74, _, _⟩ := info_parts info74
  go_enter Tryd.func71, Tryd.ntmps71
  go_upto_region 1 with (refine wpList_alloc0 rfl 107 rfl zeros64 (.agg zeros64) i74 hi74 hz74 rfl ?_)
  simp only [Act.put, List.setIfInBounds_toArray, List.set_cons_zero]
  have hz : ((roundsL.map fun x => (x.toNat : Int)).map (Value.int .u32)).toArray = (roundsL.map u32V).toArray := by rw [List.map_map]; rfl
  have hone : (roundsL.map u32V).toArray.all (·.oneCell') = true := all_oneCell_toArray (fun v hv => by obtain ⟨x, _, rfl⟩ := List.mem_map.1 hv; rfl)
  have hsz : (roundsL.map u32V).toArray.size = 64 := rfl
  have hparts : ∀ l : List (Nat × Operand), l = ((roundsL.map fun x => (x.toNat : Int)).zipIdx 0).map (fun x => (x.2, Operand.const (Value.int .u32 x.1))) → l = ((roundsL.map fun x => (x.toNat : Int)).zipIdx 0).map (fun x => (x.2, Operand.const (Value.int .u32 x.1))) := fun _ h => h
  have hW : wordsV roundsL = .agg (roundsL.map u32V).toArray := rfl
  have HW := Lib.hid hW
  clear hW hparts
  generalize (roundsL.map u32V).toArray = NZ at *
  go_wp2_with (first | (refine wpList_buildFlatArr rfl 107 78 64 _ rfl .u32 (roundsL.map fun x => (x.toNat : Int)) und74 (by kernel_rfl) (by kernel_rfl) (by kernel_rfl) ?_; rw [hz]) | (refine wpList_store_row rfl 107 (.tmp 0) (.tmp 1) rfl w.heap.size _ rfl rfl 107 zeros64 (heap_alloc_new _ _) (size74 _ hsz) (by rw [hsz]; rfl) hone ?_))
  refine bodyPost_ret (results_cell_row rfl _ _ w.heap.size 107 _ (0, 0) _ rfl (setRow_heap _ _ _ _ _ _ (heap_alloc_new _ _)) und74 rfl (size74 _ hsz)) rfl ⟨by rw [HW.out], Below.setRow ((Below.refl _ _).alloc (Nat.le_refl _) _) (Nat.le_refl _) _⟩
theorem KeptIn.setRow {S : Nat → Prop} {a w : World} (h : KeptIn S a w) {g : Nat} (hg : ¬ S g) (cs : Array Value) : KeptIn S a (w.setRow g cs) :=
  h.trans ⟨rfl, rfl, rfl, by simp, fun k hk => setRow_other w g k cs (fun e => hg (e ▸ hk))⟩
theorem w_stVr (z : St) : (bits BinOp.xor IntKind.u32 (((ror32 z.a 2).toNat ^^^ (ror32 z.a 13).toNat : Nat) : Int) ((ror32 z.a 22).toNat : Int) +
    bits BinOp.xor IntKind.u32 (bits BinOp.xor IntKind.u32 ((z.a.toNat &&& z.b.toNat : Nat) : Int) ((z.a.toNat &&& z.c.toNat : Nat) : Int)) ((z.b.toNat &&& z.c.toNat : Nat) : Int)) % 4294967296 = ((stV z).toNat : Int) := by
  rw [← UInt32.toNat_xor, ← UInt32.toNat_and, ← UInt32.toNat_and, ← UInt32.toNat_and, w_xor, w_xor, w_xor, w_add]
  rfl
set_option maxRecDepth 100000 in
set_option maxHeartbeats 4000000 in
theorem RBlock_any (s : St) (A : Option Addr) (len cap : Nat) (bs : List UInt8) (w : World) (hr : Rd w 1 A len (bs.map byteV)) (hlen : 64 ≤ len) :
    Calls Tryd.prog 66 #[.agg (stArr s), .slice A len cap] w fun e w' => e = .returned (.agg (stArr (stBlock s bs))) ∧ Below w.heap.size w w' := by
  obtain ⟨i74, hi74, hz74, _, _⟩ := info_parts info74
  obtain ⟨i61, hi61, hz61, _, _⟩ := info_parts info61
  have hle := hr.le
  go_enter Tryd.func66, Tryd.ntmps66
  go_upto_region 1 with (refine wpList_alloc0 rfl 102 rfl zeros8 (.agg zeros8) i61 hi61 hz61 rfl ?_; simp only [Act.put, List.setIfInBounds_toArray, List.set_cons_succ, List.set_cons_zero])
  obtain ⟨w1, hw1⟩ : ∃ w1, w1 = (w.alloc (.cells (stArr s) 102)).alloc (.cells zeros8 102) := ⟨_, rfl⟩
  have hB1 : Below w.heap.size w w1 := by rw [hw1]; exact ((Below.refl _ _).alloc (Nat.le_refl _) _).alloc (by simp) _
  have hs1 : w1.heap.size = w.heap.size + 2 := by rw [hw1]; simp
  have hS1 : Blk w1 w.heap.size 102 (stArr s) := by rw [hw1]; exact (Blk.new _ _ _).alloc _
  have hO1 : Blk w1 (w.heap.size + 1) 102 zeros8 := by
    rw [hw1]
    have := Blk.new (w.alloc (.cells (stArr s) 102)) 102 zeros8
    rwa [World.size_alloc] at this
  rw [World.size_alloc, ← hw1]
  have hr1 := hr.below hB1
  have Hs1 := Lib.hid hs1
  have HB1 := Lib.hid hB1
  have HO1 := Lib.hid hO1
  have HS1 := Lib.hid hS1
  have Hr1 := Lib.hid hr1
  clear hw1 hs1 hB1 hO1 hr hr1 hS1
  have hrs : ∀ w', Ext w1 w' → w'.rangeAt w.heap.size 0 [u32V s.a, u32V s.b, u32V s.c, u32V s.d, u32V s.e, u32V s.f, u32V s.g, u32V s.h] := fun w' hw' => Blk.range (HS1.out.below (ext_below hw') HS1.out.lt)
  have Hrs := Lib.hid hrs
  clear hrs
  refine wp_region_reads [0, 3] 8 (by kernel_rfl) (by kernel_rfl) (fun _ _ d _ _ h => by cases d <;> exact h) (by kernel_rfl) (by kernel_rfl) rfl ?_
  simp only [pickOps, List.getElem?_cons_zero, List.getElem?_cons_succ]
  repeat (first | go_big_quiet_step (fail) | (refine wpQuiet_load_mid rfl 102 _ rfl w.heap.size 0 rfl _ _ Hrs.out und61 rfl (by kernel_rfl) ?_; simp only [Act.put, List.setIfInBounds_toArray, List.set_cons_succ, List.set_cons_zero]))
  refine wpQuiet_nil ?_
  have kW : ∀ W, Below w1.heap.size w1 W → Calls Tryd.prog 70 #[.slice A len cap] W fun e w' => e = .returned (wordsV (words bs 48)) ∧ Below W.heap.size W w' := fun W hW => RWords_any A len cap bs W (Hr1.out.below hW) hlen
  have kN : ∀ W, Below w1.heap.size w1 W → Calls Tryd.prog 71 #[] W fun e w' => e = .returned (wordsV roundsL) ∧ Below W.heap.size W w' := fun W _ => Numbers_any W
  have hWs : ((words bs 48).map u32V).toArray.size = 64 := by simp [words_length]
  have hNs : (roundsL.map u32V).toArray.size = 64 := rfl
  have hW1 : ((words bs 48).map u32V).toArray.all (·.oneCell') = true := all_oneCell_toArray (fun v hv => by obtain ⟨x, _, rfl⟩ := List.mem_map.1 hv; rfl)
  have hN1 : (roundsL.map u32V).toArray.all (·.oneCell') = true := all_oneCell_toArray (fun v hv => by obtain ⟨x, _, rfl⟩ := List.mem_map.1 hv; rfl)
  unfold wordsV at kW kN
  obtain ⟨WA, hWA⟩ : ∃ WA, WA = ((words bs 48).map u32V).toArray := ⟨_, rfl⟩
  obtain ⟨NA, hNA⟩ : ∃ NA, NA = (roundsL.map u32V).toArray := ⟨_, rfl⟩
  rw [← hWA] at kW hWs hW1
  rw [← hNA] at kN hNs hN1
  have HWA := Lib.hid hWA
  have HNA := Lib.hid hNA
  clear hWA hNA
  refine wpAnyH_inv (R1I w1 (.agg (stArr s)) (.slice A len cap) (.pointer (some ⟨w.heap.size, 0, none⟩)) (.pointer (some ⟨w.heap.size + 1, 0, none⟩)) (.agg (stArr s)) WA NA (stArr s)) ?step ?fin ?sz 8 _ _ _ (Nat.le_of_eq (by kernel_rfl)) ?start
  case start => exact ⟨false, false, false, false, false, false, false, false, undef, undef, undef, undef, undef, 0, 0, 0, by kernel_rfl, rfl, (Below.refl _ w1).drew, (fun q => by cases q), (fun q => by cases q), (fun q => by cases q), (fun q => by cases q), (fun q => by cases q), (fun q => by cases q), (fun q => by cases q), (fun q => by cases q), (fun q => by cases q), (fun q => by cases q), (fun q => by cases q)⟩
  case sz =>
    rintro L a W ⟨l1, l2, l4, l5, l6, l7, l8, l9, v13, v14, v5, v6, v7, b5, b6, b7, rfl, _⟩
    rfl
  case step =>
    rintro L a W ⟨l1, l2, l4, l5, l6, l7, l8, l9, v13, v14, v5, v6, v7, b5, b6, b7, rfl, rfl, hB, h13, h14, h5, h6, h7, d56, d57, d67, f7, f8, f9⟩ i hun ⟨o, ho, hd⟩
    have hi : i < 10 := (Array.getElem?_eq_some_iff.1 ho).1
    have hi10 : i = 0 ∨ i = 1 ∨ i = 2 ∨ i = 3 ∨ i = 4 ∨ i = 5 ∨ i = 6 ∨ i = 7 ∨ i = 8 ∨ i = 9 := by omega
    rcases hi10 with rfl | rfl | rfl | rfl | rfl | rfl | rfl | rfl | rfl | rfl
    · exact Bool.noConfusion (show true = false from hun)
    · obtain rfl : l1 = false := hun
      refine wpOp_step rfl fun K hK => ?_
      unfold frB
      go_simp
      refine (kW W hB).mono ?_
      rintro e W' ⟨rfl, hb⟩
      have hB' := hB.trans (hb.mono hB.size)
      exact hK _ _ ⟨ext_of hB', true, l2, l4, l5, l6, l7, l8, l9, _, v14, v5, v6, v7, b5, b6, b7, rfl, rfl, hB', fun _ => rfl, h14, fun q => (h5 q).below hb, fun q => (h6 q).below hb, fun q => (h7 q).below hb, d56, d57, d67, f7, f8, f9⟩
    · obtain rfl : l2 = false := hun
      refine wpOp_step rfl fun K hK => ?_
      unfold frB
      go_simp
      refine (kN W hB).mono ?_
      rintro e W' ⟨rfl, hb⟩
      have hB' := hB.trans (hb.mono hB.size)
      exact hK _ _ ⟨ext_of hB', l1, true, l4, l5, l6, l7, l8, l9, v13, _, v5, v6, v7, b5, b6, b7, rfl, rfl, hB', h13, fun _ => rfl, fun q => (h5 q).below hb, fun q => (h6 q).below hb, fun q => (h7 q).below hb, d56, d57, d67, f7, f8, f9⟩
    · exact Bool.noConfusion (show true = false from hun)
    · obtain rfl : l4 = false := hun
      obtain rfl : l7 = false := by cases l7 with
        | false => rfl
        | true => cases f7 rfl
      refine wpOp_step rfl fun K hK => ?_
      refine step_alloc0 rfl 107 rfl zeros64 (.agg zeros64) i74 hi74 hz74 rfl ?_
      have hal : Below W.heap.size W (W.alloc (.cells zeros64 107)) := (Below.refl _ _).alloc (Nat.le_refl _) _
      have hB' := hB.alloc hB.size (.cells zeros64 107)
      exact hK _ _ ⟨ext_of hB', l1, l2, true, l5, l6, false, l8, l9, v13, v14, _, v6, v7, W.heap.size, b6, b7, rfl, rfl, hB', h13, h14, fun _ => VB.new hB.size _ _ _, fun q => (h6 q).below hal, fun q => (h7 q).below hal, (fun _ q => by have := (h6 q).2.2.1; omega), (fun _ q => by have := (h7 q).2.2.1; omega), d67, (fun q => by cases q), f8, f9⟩
    · obtain rfl : l5 = false := hun
      obtain rfl : l8 = false := by cases l8 with
        | false => rfl
        | true => cases f8 rfl
      refine wpOp_step rfl fun K hK => ?_
      refine step_alloc0 rfl 107 rfl zeros64 (.agg zeros64) i74 hi74 hz74 rfl ?_
      have hal : Below W.heap.size W (W.alloc (.cells zeros64 107)) := (Below.refl _ _).alloc (Nat.le_refl _) _
      have hB' := hB.alloc hB.size (.cells zeros64 107)
      exact hK _ _ ⟨ext_of hB', l1, l2, l4, true, l6, l7, false, l9, v13, v14, v5, _, v7, b5, W.heap.size, b7, rfl, rfl, hB', h13, h14, fun q => (h5 q).below hal, fun _ => VB.new hB.size _ _ _, fun q => (h7 q).below hal, (fun q _ => by have := (h5 q).2.2.1; omega), d57, (fun _ q => by have := (h7 q).2.2.1; omega), f7, (fun q => by cases q), f9⟩
    · obtain rfl : l6 = false := hun
      obtain rfl : l9 = false := by cases l9 with
        | false => rfl
        | true => cases f9 rfl
      refine wpOp_step rfl fun K hK => ?_
      refine step_alloc0 rfl 102 rfl zeros8 (.agg zeros8) i61 hi61 hz61 rfl ?_
      have hal : Below W.heap.size W (W.alloc (.cells zeros8 102)) := (Below.refl _ _).alloc (Nat.le_refl _) _
      have hB' := hB.alloc hB.size (.cells zeros8 102)
      exact hK _ _ ⟨ext_of hB', l1, l2, l4, l5, true, l7, l8, false, v13, v14, v5, v6, _, b5, b6, W.heap.size, rfl, rfl, hB', h13, h14, fun q => (h5 q).below hal, fun q => (h6 q).below hal, fun _ => VB.new hB.size _ _ _, d56, (fun q _ => by have := (h5 q).2.2.1; omega), (fun q _ => by have := (h6 q).2.2.1; omega), f7, f8, (fun q => by cases q)⟩
    · obtain rfl : l7 = false := hun
      obtain rfl := Option.some.inj ho
      obtain rfl : l4 = true := by cases l4 with
        | true => rfl
        | false => exact Bool.noConfusion (show false = true from hd)
      obtain rfl : l1 = true := by cases l1 with
        | true => rfl
        | false => exact Bool.noConfusion (show false = true from hd)
      obtain rfl : l2 = true := by cases l2 with
        | true => rfl
        | false => exact Bool.noConfusion (show false = true from hd)
      obtain rfl : l5 = true := by cases l5 with
        | true => rfl
        | false => exact Bool.noConfusion (show false = true from hd)
      obtain rfl : l6 = true := by cases l6 with
        | true => rfl
        | false => exact Bool.noConfusion (show false = true from hd)
      have hV := h5 rfl
      obtain ⟨rfl, hb1, hb2, C, hC, hCs, _⟩ := id hV
      obtain rfl := h13 rfl
      refine wpOp_step rfl fun K hK => ?_
      refine step_store_row rfl 107 (.tmp 5) (.tmp 13) rfl b5 WA rfl rfl 107 C hC (size74 _ hWs) (by rw [hCs, hWs]) hW1 ?_
      have hB' := Below.setRow hB hb1 WA
      exact hK _ _ ⟨ext_of hB', true, true, true, true, true, true, l8, l9, _, _, _, _, _, b5, b6, b7, rfl, rfl, hB', h13, h14, fun q => VB.set hV hWs, fun q => (h6 q).other (fun e => d56 rfl q e.symm) _, fun q => (h7 q).other (fun e => d57 rfl q e.symm) _, d56, d57, d67, fun _ => rfl, f8, f9⟩
    · obtain rfl : l8 = false := hun
      obtain rfl := Option.some.inj ho
      obtain rfl : l5 = true := by cases l5 with
        | true => rfl
        | false => exact Bool.noConfusion (show false = true from hd)
      obtain rfl : l2 = true := by cases l2 with
        | true => rfl
        | false => exact Bool.noConfusion (show false = true from hd)
      obtain rfl : l7 = true := by cases l7 with
        | true => rfl
        | false => exact Bool.noConfusion (show false = true from hd)
      obtain rfl : l1 = true := by cases l1 with
        | true => rfl
        | false => exact Bool.noConfusion (show false = true from hd)
      obtain rfl : l4 = true := by cases l4 with
        | true => rfl
        | false => exact Bool.noConfusion (show false = true from hd)
      obtain rfl : l6 = true := by cases l6 with
        | true => rfl
        | false => exact Bool.noConfusion (show false = true from hd)
      have hV := h6 rfl
      obtain ⟨rfl, hb1, hb2, C, hC, hCs, _⟩ := id hV
      obtain rfl := h14 rfl
      refine wpOp_step rfl fun K hK => ?_
      refine step_store_row rfl 107 (.tmp 6) (.tmp 14) rfl b6 NA rfl rfl 107 C hC (size74 _ hNs) (by rw [hCs, hNs]) hN1 ?_
      have hB' := Below.setRow hB hb1 NA
      exact hK _ _ ⟨ext_of hB', true, true, true, true, true, true, true, l9, _, _, _, _, _, b5, b6, b7, rfl, rfl, hB', h13, h14, fun q => (h5 q).other (d56 q rfl) _, fun q => VB.set hV hNs, fun q => (h7 q).other (fun e => d67 rfl q e.symm) _, d56, d57, d67, f7, fun _ => rfl, f9⟩
    · obtain rfl : l9 = false := hun
      obtain rfl := Option.some.inj ho
      obtain rfl : l6 = true := by cases l6 with
        | true => rfl
        | false => exact Bool.noConfusion (show false = true from hd)
      obtain rfl : l8 = true := by cases l8 with
        | true => rfl
        | false => exact Bool.noConfusion (show false = true from hd)
      obtain rfl : l1 = true := by cases l1 with
        | true => rfl
        | false => exact Bool.noConfusion (show false = true from hd)
      obtain rfl : l2 = true := by cases l2 with
        | true => rfl
        | false => exact Bool.noConfusion (show false = true from hd)
      obtain rfl : l4 = true := by cases l4 with
        | true => rfl
        | false => exact Bool.noConfusion (show false = true from hd)
      obtain rfl : l5 = true := by cases l5 with
        | true => rfl
        | false => exact Bool.noConfusion (show false = true from hd)
      obtain rfl : l7 = true := by cases l7 with
        | true => rfl
        | false => exact Bool.noConfusion (show false = true from hd)
      have hV := h7 rfl
      obtain ⟨rfl, hb1, hb2, C, hC, hCs, _⟩ := id hV
      refine wpOp_step rfl fun K hK => ?_
      refine step_store_row rfl 102 (.tmp 7) (.tmp 15) rfl b7 (stArr s) rfl rfl 102 C hC (size61 _ (show (stArr s).size = 8 from rfl)) (by rw [hCs, (show (stArr s).size = 8 from rfl)]) (stArr_one s) ?_
      have hB' := Below.setRow hB hb1 (stArr s)
      exact hK _ _ ⟨ext_of hB', true, true, true, true, true, true, true, true, _, _, _, _, _, b5, b6, b7, rfl, rfl, hB', h13, h14, fun q => (h5 q).other (d57 q rfl) _, fun q => (h6 q).other (d67 q rfl) _, fun q => VB.set hV (show (stArr s).size = 8 from rfl), d56, d57, d67, f7, f8, fun _ => rfl⟩
  case fin =>
    rintro L a W ⟨l1, l2, l4, l5, l6, l7, l8, l9, v13, v14, v5, v6, v7, b5, b6, b7, rfl, rfl, hB, h13, h14, h5, h6, h7, d56, d57, d67, f7, f8, f9⟩ hfin
    obtain rfl : l1 = true := by cases l1 with
      | true => rfl
      | false => exact Bool.noConfusion (show true = false from hfin 1 _ rfl rfl)
    obtain rfl : l2 = true := by cases l2 with
      | true => rfl
      | false => exact Bool.noConfusion (show true = false from hfin 2 _ rfl rfl)
    obtain rfl : l4 = true := by cases l4 with
      | true => rfl
      | false => exact Bool.noConfusion (show true = false from hfin 4 _ rfl rfl)
    obtain rfl : l5 = true := by cases l5 with
      | true => rfl
      | false => exact Bool.noConfusion (show true = false from hfin 5 _ rfl rfl)
    obtain rfl : l6 = true := by cases l6 with
      | true => rfl
      | false => exact Bool.noConfusion (show true = false from hfin 6 _ rfl rfl)
    obtain rfl : l7 = true := by cases l7 with
      | true => rfl
      | false => exact Bool.noConfusion (show true = false from hfin 7 _ rfl rfl)
    obtain rfl : l8 = true := by cases l8 with
      | true => rfl
      | false => exact Bool.noConfusion (show true = false from hfin 8 _ rfl rfl)
    obtain rfl : l9 = true := by cases l9 with
      | true => rfl
      | false => exact Bool.noConfusion (show true = false from hfin 9 _ rfl rfl)
    obtain rfl := h13 rfl
    obtain rfl := h14 rfl
    obtain ⟨rfl, c51, c52, C5, k5, _, e5⟩ := h5 rfl
    obtain ⟨rfl, c61, c62, C6, k6, _, e6⟩ := h6 rfl
    obtain ⟨rfl, c71, c72, C7, k7, _, e7⟩ := h7 rfl
    obtain rfl := e5 rfl
    obtain rfl := e6 rfl
    obtain rfl := e7 rfl
    have n56 := d56 rfl rfl
    have n57 := d57 rfl rfl
    have n67 := d67 rfl rfl
    unfold frB
    dsimp only
    have hkept0 : KeptIn (fun k => k < W.heap.size ∧ k ≠ b7) W W := KeptIn.refl _ _
    have hX0 : Blk W b7 102 (stArr (stRounds (words bs 48) s 0)) := k7
    have hHWA := HWA.out
    have hHNA := HNA.out
    have hWL := words_length bs 48
    have hcw : ∀ q, q < 64 → W.cell? ⟨b5, q, none⟩ = some (.int .u32 (((words bs 48).getD q 0).toNat : Int)) := fun q hq => by
      rw [k5.cell q, hHWA, List.getElem?_toArray, List.getElem?_map, List.getD_eq_getElem?_getD, List.getElem?_eq_getElem (by omega)]
      rfl
    have hck : ∀ q, q < 64 → W.cell? ⟨b6, q, none⟩ = some (.int .u32 ((roundsL.getD q 0).toNat : Int)) := fun q hq => by
      rw [k6.cell q, hHNA, List.getElem?_toArray, List.getElem?_map, List.getD_eq_getElem?_getD, List.getElem?_eq_getElem (by exact hq)]
      rfl
    have hbl : stBlock s bs = stAdd s (stRounds (words bs 48) s 64) := rfl
    have Hbl := Lib.hid hbl
    generalize words bs 48 = WS at *
    have Hcw := Lib.hid hcw
    have Hck := Lib.hid hck
    have HBW := Lib.hid (HB1.out.trans (hB.mono HB1.out.size))
    have HS := Lib.hid (HS1.out.below hB HS1.out.lt)
    have HO := Lib.hid (HO1.out.below hB HO1.out.lt)
    have hlo : w.heap.size + 1 < w1.heap.size := HO1.out.lt
    clear hfin h13 h14 h5 h6 h7 d56 d57 d67 f7 f8 f9 e5 e6 e7 k5 k6 k7 hHWA hHNA hWL hcw hck hbl kW kN hWs hNs hW1 hN1 HWA HNA Hrs
    go_wp2_with fail
    go_loopw [8, 9, 10] (fun t _ _ wr => ∃ q : Nat, q ≤ 64 ∧ t = .int .i64 q ∧ Blk wr b7 102 (stArr (stRounds WS s q)) ∧ KeptIn (fun k => k < W.heap.size ∧ k ≠ b7) W wr) (fun t _ _ _ => 64 - (intOf t).toNat)
    case atStart => exact ⟨0, by omega, rfl, hX0, hkept0⟩
    case round =>
      obtain ⟨q, hq, rfl, hX, hK⟩ := hrel
      clear hX0 hkept0
      by_cases hlt : q < 64
      · have cw := (hK.cell (p := ⟨b5, q, none⟩) ⟨c52, n57⟩).trans (Hcw.out q hlt)
        have ck := (hK.cell (p := ⟨b6, q, none⟩) ⟨c62, n67⟩).trans (Hck.out q hlt)
        have hst : stRounds WS s (q + 1) = stStep (stRounds WS s q) (roundsL.getD q 0) (WS.getD q 0) := rfl
        generalize stRounds WS s q = z at *
        generalize roundsL.getD q 0 = kq at *
        generalize WS.getD q 0 = wq at *
        have x0 : wr.cell? ⟨b7, 0, none⟩ = some (.int .u32 (z.a.toNat : Int)) := hX.cell 0
        have x1 : wr.cell? ⟨b7, 1, none⟩ = some (.int .u32 (z.b.toNat : Int)) := hX.cell 1
        have x2 : wr.cell? ⟨b7, 2, none⟩ = some (.int .u32 (z.c.toNat : Int)) := hX.cell 2
        have x3 : wr.cell? ⟨b7, 3, none⟩ = some (.int .u32 (z.d.toNat : Int)) := hX.cell 3
        have x4 : wr.cell? ⟨b7, 4, none⟩ = some (.int .u32 (z.e.toNat : Int)) := hX.cell 4
        have x5 : wr.cell? ⟨b7, 5, none⟩ = some (.int .u32 (z.f.toNat : Int)) := hX.cell 5
        have x6 : wr.cell? ⟨b7, 6, none⟩ = some (.int .u32 (z.g.toNat : Int)) := hX.cell 6
        have x7 : wr.cell? ⟨b7, 7, none⟩ = some (.int .u32 (z.h.toNat : Int)) := hX.cell 7
        have Hst := Lib.hid hst
        have HX := Lib.hid hX
        have HK := Lib.hid hK
        clear hst hX hK
        have wx := w_xor
        have wan := w_and
        have hC1 : ∀ a, Calls Tryd.prog 72 #[.int .u32 (z.e.toNat : Int), .int .i64 6] (wr.drewN a) fun e w'' => e = .returned (.int .u32 ((ror32 z.e 6).toNat : Int)) ∧ ∃ m, w'' = wr.drewN m := fun a => Calls.quiet_of (RRor_any z.e 6 (by omega) (by omega) _)
        have hC2 : ∀ a, Calls Tryd.prog 72 #[.int .u32 (z.e.toNat : Int), .int .i64 11] (wr.drewN a) fun e w'' => e = .returned (.int .u32 ((ror32 z.e 11).toNat : Int)) ∧ ∃ m, w'' = wr.drewN m := fun a => Calls.quiet_of (RRor_any z.e 11 (by omega) (by omega) _)
        have hC3 : ∀ a, Calls Tryd.prog 72 #[.int .u32 (z.e.toNat : Int), .int .i64 25] (wr.drewN a) fun e w'' => e = .returned (.int .u32 ((ror32 z.e 25).toNat : Int)) ∧ ∃ m, w'' = wr.drewN m := fun a => Calls.quiet_of (RRor_any z.e 25 (by omega) (by omega) _)
        go_wp2_with fail
        go_quiet (first | with_reducible exact hC1 _ | with_reducible exact hC2 _ | with_reducible exact hC3 _)
        rw [w_stU]
        generalize hu : stU z kq wq = uu
        have Hu := Lib.hid hu
        clear hu hC1 hC2 hC3 cw ck
        obtain ⟨wn, hwn⟩ : ∃ wn, wn = wr.drewN nq := ⟨_, rfl⟩
        rw [← hwn]
        replace x0 : wn.cell? ⟨b7, 0, none⟩ = some (.int .u32 (z.a.toNat : Int)) := by rw [hwn]; exact x0
        replace x1 : wn.cell? ⟨b7, 1, none⟩ = some (.int .u32 (z.b.toNat : Int)) := by rw [hwn]; exact x1
        replace x2 : wn.cell? ⟨b7, 2, none⟩ = some (.int .u32 (z.c.toNat : Int)) := by rw [hwn]; exact x2
        replace x3 : wn.cell? ⟨b7, 3, none⟩ = some (.int .u32 (z.d.toNat : Int)) := by rw [hwn]; exact x3
        replace x4 : wn.cell? ⟨b7, 4, none⟩ = some (.int .u32 (z.e.toNat : Int)) := by rw [hwn]; exact x4
        replace x5 : wn.cell? ⟨b7, 5, none⟩ = some (.int .u32 (z.f.toNat : Int)) := by rw [hwn]; exact x5
        replace x6 : wn.cell? ⟨b7, 6, none⟩ = some (.int .u32 (z.g.toNat : Int)) := by rw [hwn]; exact x6
        replace x7 : wn.cell? ⟨b7, 7, none⟩ = some (.int .u32 (z.h.toNat : Int)) := by rw [hwn]; exact x7
        replace HX : RowKit.Hid (Blk wn b7 102 (stArr z)) := by rw [hwn]; exact HX
        replace HK : RowKit.Hid (KeptIn (fun k => k < W.heap.size ∧ k ≠ b7) W wn) := by rw [hwn]; exact Lib.hid ⟨HK.out.os, HK.out.tape, HK.out.output, HK.out.size, HK.out.block⟩
        clear hwn
        have hD1 : ∀ a, Calls Tryd.prog 72 #[.int .u32 (z.a.toNat : Int), .int .i64 2] (wn.drewN a) fun e w'' => e = .returned (.int .u32 ((ror32 z.a 2).toNat : Int)) ∧ ∃ m, w'' = wn.drewN m := fun a => Calls.quiet_of (RRor_any z.a 2 (by omega) (by omega) _)
        have hD2 : ∀ a, Calls Tryd.prog 72 #[.int .u32 (z.a.toNat : Int), .int .i64 13] (wn.drewN a) fun e w'' => e = .returned (.int .u32 ((ror32 z.a 13).toNat : Int)) ∧ ∃ m, w'' = wn.drewN m := fun a => Calls.quiet_of (RRor_any z.a 13 (by omega) (by omega) _)
        have hD3 : ∀ a, Calls Tryd.prog 72 #[.int .u32 (z.a.toNat : Int), .int .i64 22] (wn.drewN a) fun e w'' => e = .returned (.int .u32 ((ror32 z.a 22).toNat : Int)) ∧ ∃ m, w'' = wn.drewN m := fun a => Calls.quiet_of (RRor_any z.a 22 (by omega) (by omega) _)
        go_wp2_with fail
        go_quiet (first | with_reducible exact hD1 _ | with_reducible exact hD2 _ | with_reducible exact hD3 _)
        rw [w_stVr]
        generalize hv : stV z = vv
        have Hv := Lib.hid hv
        clear hv hD1 hD2 hD3 wx wan
        obtain ⟨wo, hwo⟩ : ∃ wo, wo = wn.drewN nq := ⟨_, rfl⟩
        rw [← hwo]
        replace x0 : wo.cell? ⟨b7, 0, none⟩ = some (.int .u32 (z.a.toNat : Int)) := by rw [hwo]; exact x0
        replace x1 : wo.cell? ⟨b7, 1, none⟩ = some (.int .u32 (z.b.toNat : Int)) := by rw [hwo]; exact x1
        replace x2 : wo.cell? ⟨b7, 2, none⟩ = some (.int .u32 (z.c.toNat : Int)) := by rw [hwo]; exact x2
        replace x3 : wo.cell? ⟨b7, 3, none⟩ = some (.int .u32 (z.d.toNat : Int)) := by rw [hwo]; exact x3
        replace x4 : wo.cell? ⟨b7, 4, none⟩ = some (.int .u32 (z.e.toNat : Int)) := by rw [hwo]; exact x4
        replace x5 : wo.cell? ⟨b7, 5, none⟩ = some (.int .u32 (z.f.toNat : Int)) := by rw [hwo]; exact x5
        replace x6 : wo.cell? ⟨b7, 6, none⟩ = some (.int .u32 (z.g.toNat : Int)) := by rw [hwo]; exact x6
        replace x7 : wo.cell? ⟨b7, 7, none⟩ = some (.int .u32 (z.h.toNat : Int)) := by rw [hwo]; exact x7
        replace HX : RowKit.Hid (Blk wo b7 102 (stArr z)) := by rw [hwo]; exact HX
        replace HK : RowKit.Hid (KeptIn (fun k => k < W.heap.size ∧ k ≠ b7) W wo) := by rw [hwo]; exact Lib.hid ⟨HK.out.os, HK.out.tape, HK.out.output, HK.out.size, HK.out.block⟩
        clear hwo
        obtain ⟨CN, hCN⟩ : ∃ CN : Array Value, #[.int .u32 (((uu.toNat : Int) + (vv.toNat : Int)) % 4294967296), .int .u32 (z.a.toNat : Int), .int .u32 (z.b.toNat : Int), .int .u32 (z.c.toNat : Int), .int .u32 (((z.d.toNat : Int) + (uu.toNat : Int)) % 4294967296), .int .u32 (z.e.toNat : Int), .int .u32 (z.f.toNat : Int), .int .u32 (z.g.toNat : Int)] = CN := ⟨_, rfl⟩
        have hcn : CN = stArr (stStep z kq wq) := by
          rw [← hCN, w_add, w_add]
          unfold stStep
          rw [Hu.out, Hv.out]
          rfl
        have hcz : CN.size = 8 := by rw [← hCN]; rfl
        have hcs : (stArr z).size = CN.size := by rw [hcz]; rfl
        have hco : CN.all (·.oneCell') = true := by rw [hcn]; exact stArr_one _
        have hBk : wo.heap[b7]? = some (.cells (stArr z) 102 (0, 0)) := HX.out
        have Hcn := Lib.hid hcn
        clear hcn Hu Hv Hck Hcw HBW HS HO
        go_wp2_with (refine wpList_store_row rfl 102 (.tmp 7) (.tmp 103) rfl b7 CN rfl (by first | rfl | (rw [← hCN]; rfl)) 102 (stArr z) hBk (size61 _ hcz) hcs hco ?_)
        have hX2 : Blk (wo.setRow b7 CN) b7 102 (stArr (stRounds WS s (q + 1))) := by
          rw [Hst.out, ← Hcn.out]
          exact setRow_heap _ _ _ _ _ _ hBk
        exact ⟨⟨q + 1, by omega, by go_num, hX2, HK.out.setRow (fun h => h.2 rfl) _⟩, by simp [intOf]; omega⟩
      · obtain rfl : q = 64 := by omega
        have hsW := hK.size
        have hSr : Blk wr w.heap.size 102 (stArr s) := HS.out.keptIn hK ⟨by omega, by omega⟩
        have hOr : Blk wr (w.heap.size + 1) 102 zeros8 := HO.out.keptIn hK ⟨by omega, by omega⟩
        have hBr : Below w.heap.size w wr := HBW.out.trans (hK.below (fun k hk => ⟨by omega, by omega⟩))
        have hbl := Hbl.out
        generalize stRounds WS s 64 = z at *
        obtain ⟨ys, hys⟩ : ∃ ys : List UInt32, ys = [z.a, z.b, z.c, z.d, z.e, z.f, z.g, z.h] := ⟨_, rfl⟩
        obtain ⟨xs, hxs⟩ : ∃ xs : List UInt32, xs = [s.a, s.b, s.c, s.d, s.e, s.f, s.g, s.h] := ⟨_, rfl⟩
        have hyl : ys.length = 8 := by rw [hys]; rfl
        have hxl : xs.length = 8 := by rw [hxs]; rfl
        have hxc : ∀ q, q < 8 → wr.cell? ⟨b7, q, none⟩ = some (.int .u32 ((ys.getD q 0).toNat : Int)) := fun q hq => by
          have h1 : stArr z = (ys.map u32V).toArray := by rw [hys]; rfl
          rw [hX.cell q, h1, List.getElem?_toArray, List.getElem?_map, List.getD_eq_getElem?_getD, List.getElem?_eq_getElem (by omega)]
          rfl
        have h40 : ∃ zs : List UInt32, zs.length = 8 ∧ (∀ j, j < 8 → zs.getD j 0 = if j < 0 then xs.getD j 0 + ys.getD j 0 else xs.getD j 0) ∧ Blk wr w.heap.size 102 (zs.map u32V).toArray := ⟨xs, hxl, fun j _ => by simp, by rw [hxs]; exact hSr⟩
        have Hys := Lib.hid hys
        have Hxs := Lib.hid hxs
        have Hbl2 := Lib.hid hbl
        have Hxc := Lib.hid hxc
        have Hor := Lib.hid hOr
        have HBr := Lib.hid hBr
        have hsr : w.heap.size + 1 < wr.heap.size := hOr.lt
        have hb7 : b7 < wr.heap.size := hX.lt
        have hk0 : KeptIn (fun k => k < wr.heap.size ∧ k ≠ w.heap.size) wr wr := KeptIn.refl _ _
        clear hys hxs hbl hxc hOr hBr hSr hX hK Hbl Hck Hcw HBW HS HO
        obtain ⟨wf, hwf⟩ : ∃ wf, wf = wr := ⟨_, rfl⟩
        subst hwf
        rw [show ((64 : Nat) : Int) = 64 from rfl]
        go_wp2_with fail
        go_loopw [11] (fun t wx => ∃ n : Nat, n ≤ 8 ∧ t = .int .i64 n ∧ (∃ zs : List UInt32, zs.length = 8 ∧ (∀ j, j < 8 → zs.getD j 0 = if j < n then xs.getD j 0 + ys.getD j 0 else xs.getD j 0) ∧ Blk wx w.heap.size 102 (zs.map u32V).toArray) ∧ KeptIn (fun k => k < wf.heap.size ∧ k ≠ w.heap.size) wf wx) (fun t _ => 8 - (intOf t).toNat)
        case atStart => exact ⟨0, Nat.zero_le _, rfl, h40, hk0⟩
        case round =>
          obtain ⟨n, hn, rfl, ⟨zs, hzl, hzs, hZ⟩, hK⟩ := hrel
          by_cases hlt : n < 8
          · have hzn := hzs n hlt
            rw [if_neg (by omega)] at hzn
            have c0 : wr.cell? ⟨w.heap.size, n, none⟩ = some (.int .u32 ((xs.getD n 0).toNat : Int)) := by
              rw [hZ.cell n, List.getElem?_toArray, List.getElem?_map, List.getElem?_eq_getElem (by omega), ← hzn, List.getD_eq_getElem?_getD, List.getElem?_eq_getElem (by omega)]
              rfl
            have f0 : wr.frozen? ⟨w.heap.size, n, none⟩ = false := hZ.frozen n
            have c7 := (hK.cell (p := ⟨b7, n, none⟩) ⟨hb7, by show b7 ≠ _; omega⟩).trans (Hxc.out n hlt)
            have hs1 : (xs.getD n 0 + ys.getD n 0) = (fun n => xs.getD n 0 + ys.getD n 0) n := rfl
            have Hs1 := Lib.hid hs1
            clear hs1
            generalize xs.getD n 0 = xq at *
            generalize ys.getD n 0 = yq at *
            have HZ := Lib.hid hZ
            have HK := Lib.hid hK
            have HZS := Lib.hid hzs
            clear hZ hK hzs hzn h40 hk0 hyl hxl
            go_wp2_with fail
            go_region
            go_wp2
            rw [w_add]
            have hnew : Blk (wr.setCell ⟨w.heap.size, n, none⟩ (u32V (xq + yq))).drew w.heap.size 102 ((zs.set n (xq + yq)).map u32V).toArray := by
              refine (heap_setCell_same wr w.heap.size n _ 102 (u32V (xq + yq)) HZ.out).trans ?_
              rw [List.setIfInBounds_toArray, List.map_set]
            have hk5 := HK.out.setAt (p := ⟨w.heap.size, n, none⟩) (by simp) (u32V (xq + yq))
            refine ⟨⟨n + 1, by omega, by go_num, ⟨zs.set n (xq + yq), by rw [List.length_set, hzl], ?_, hnew⟩, ⟨hk5.os, hk5.tape, hk5.output, hk5.size, hk5.block⟩⟩, by simp [intOf]; omega⟩
            intro j hj
            rw [List.getD_eq_getElem?_getD, List.getElem?_set]
            by_cases hjq : n = j
            · subst hjq
              rw [if_pos rfl, if_pos (by omega), if_pos (by omega)]
              exact Hs1.out
            · rw [if_neg hjq, ← List.getD_eq_getElem?_getD, HZS.out j hj]
              by_cases hj2 : j < n
              · rw [if_pos hj2, if_pos (by omega)]
              · rw [if_neg hj2, if_neg (by omega)]
          · obtain rfl : n = 8 := by omega
            have hz8 := cells8 s z zs xs ys hzl Hxs.out Hys.out hzs
            have hres : (zs.map u32V).toArray = stArr (stBlock s bs) := by rw [Hbl2.out, hz8]; rfl
            have hO2 : Blk wr (w.heap.size + 1) 102 zeros8 := Hor.out.keptIn hK ⟨by omega, by omega⟩
            have hBf : Below w.heap.size w wr := HBr.out.trans (hK.below (fun k hk => ⟨by omega, by omega⟩))
            have hsz8 : (zs.map u32V).toArray.size = 8 := by simp [hzl]
            have hone8 : (zs.map u32V).toArray.all (·.oneCell') = true := by rw [hres]; exact stArr_one _
            have Hres := Lib.hid hres
            have HO2 := Lib.hid hO2
            have HBf := Lib.hid hBf
            have HZ := Lib.hid hZ
            clear hres hO2 hBf hZ hK hzs hz8 h40 hk0
            generalize (zs.map u32V).toArray = ZA at *
            go_wp2_with (first | (refine wpList_load_row rfl 102 (.tmp 2) rfl w.heap.size rfl 102 _ (0, 0) _ HZ.out und61 rfl (size61 _ hsz8) ?_) | (refine wpList_store_row rfl 102 (.tmp 4) (.tmp 116) rfl (w.heap.size + 1) _ rfl rfl 102 _ HO2.out (size61 _ hsz8) (by rw [hsz8]; rfl) hone8 ?_))
            refine bodyPost_ret (results_cell_row rfl _ _ (w.heap.size + 1) 102 _ (0, 0) _ rfl (setRow_heap _ _ _ _ _ _ HO2.out) und61 rfl (size61 _ hsz8)) rfl ⟨by rw [Hres.out], Below.setRow HBf.out (by omega) _⟩
end

section
open Go.RowKit Go.Sort

theorem built32 : Tryd.prog.built 26 [] = some zero32 := by kernel_rfl
theorem zero32_start (l : List UInt8) : zero32 = ((l.take 0 ++ List.replicate (32 - 0) (0 : UInt8)).map byteV).toArray := by
  rw [List.take_zero, List.nil_append]
  kernel_rfl
theorem size_zero32 : zero32.size = 32 := by kernel_rfl
theorem stArr_size (s : St) : (stArr s).size = 8 := rfl
theorem zero32_one : zero32.all (·.oneCell') = true := by kernel_rfl
set_option maxRecDepth 100000 in
set_option maxHeartbeats 2000000 in
theorem RSum_any (A : Option Addr) (len cap : Nat) (bs : List UInt8) (w : World) (hr : Rd w 1 A len (bs.map byteV)) (hlen : len ≤ 8796093022000) :
    Calls Tryd.prog 55 #[.slice A len cap] w fun e w' => e = .returned (sumV (sha bs)) ∧ Below w.heap.size w w' := by
  have hl := hr.len1
  obtain ⟨i61, hi61, hz61, _, _⟩ := info_parts info61
  obtain ⟨i32, hi32, hz32, _, _⟩ := info_parts info32
  go_enter Tryd.func55, Tryd.ntmps55
  go_upto_region 1 with (refine wpList_alloc0 rfl 26 rfl zero32 (.agg zero32) i32 hi32 hz32 rfl ?_; simp only [Act.put, List.setIfInBounds_toArray, List.set_cons_succ, List.set_cons_zero])
  obtain ⟨w1, hw1⟩ : ∃ w1, w1 = w.alloc (.cells zero32 26) := ⟨_, rfl⟩
  have hB1 : Below w.heap.size w w1 := by rw [hw1]; exact (Below.refl _ _).alloc (Nat.le_refl _) _
  have hs1 : w1.heap.size = w.heap.size + 1 := by rw [hw1]; simp
  have hO1 : Blk w1 w.heap.size 26 zero32 := by rw [hw1]; exact Blk.new _ _ _
  rw [← hw1]
  have Hr1 := Lib.hid (hr.below hB1)
  have Hs1 := Lib.hid hs1
  have HB1 := Lib.hid hB1
  have HO1 := Lib.hid hO1
  clear hw1 hs1 hB1 hO1 hr
  go_wp2_with fail
  refine (Starts_any w1).mono ?_
  rintro e w2 ⟨rfl, hb2⟩
  have Hb2 := Lib.hid hb2
  have Hr2 := Lib.hid (Hr1.out.below hb2)
  clear hb2
  go_wp2_with fail
  refine (RPad_any A len cap bs w2 Hr2.out (by omega)).mono ?_
  rintro e w3 ⟨A3, L, c3, rfl, hc3, hr3, hb3⟩
  have hLl := hr3.len1
  have hpl := padded_length bs
  have hpb := padded_blocks bs
  have hLb : L ≤ 8796093022100 := by
    have h1 := hLl
    have h2 := padLen_lt bs.length
    rw [hpl] at h1
    omega
  obtain ⟨b, off, rfl, _⟩ := hr3.2.2 (by omega)
  have Hb3 := Lib.hid (Hb2.out.trans (hb3.mono Hb2.out.size))
  have Hr3 := Lib.hid hr3
  clear hb3 hr3
  have hz3 : (w3.alloc (.cells zeros8 102)).heap.size = w3.heap.size + 1 := by simp
  have hH1 : ((w3.alloc (.cells zeros8 102)).alloc (.cells zero32 26)).heap[w3.heap.size]? = some (.cells zeros8 102 (0, 0)) := heap_alloc2_old _ _ _
  have hH2 : (((w3.alloc (.cells zeros8 102)).alloc (.cells zero32 26)).setRow w3.heap.size (stArr stInit)).heap[w3.heap.size + 1]? = some (.cells zero32 26 (0, 0)) := (setRow_other _ w3.heap.size (w3.heap.size + 1) _ (by omega)).trans (heap_alloc2_new _ _ _)
  go_wp2_with (first | (refine wpList_alloc0 rfl 102 rfl zeros8 (.agg zeros8) i61 hi61 hz61 rfl ?_; simp only [Act.put, List.setIfInBounds_toArray, List.set_cons_succ, List.set_cons_zero]) | (refine wpList_alloc0 rfl 26 rfl zero32 (.agg zero32) i32 hi32 hz32 rfl ?_; simp only [Act.put, List.setIfInBounds_toArray, List.set_cons_succ, List.set_cons_zero, hz3]) | (refine wpList_build0 rfl 26 rfl zero32 built32 ?_) | (refine wpList_store_row rfl 102 (.tmp 3) (.tmp 8) rfl w3.heap.size _ rfl rfl 102 zeros8 hH1 (size61 _ rfl) rfl (stArr_one _) ?_; simp only [Act.put]) | (refine wpList_store_row rfl 26 (.tmp 5) (.tmp 11) rfl (w3.heap.size + 1) zero32 rfl rfl 26 zero32 hH2 (size32 _ rfl) rfl zero32_one ?_; simp only [Act.put]))
  obtain ⟨w4, hw4⟩ : ∃ w4, w4 = ((((w3.alloc (.cells zeros8 102)).alloc (.cells zero32 26)).setRow w3.heap.size (stArr stInit)).setRow (w3.heap.size + 1) zero32) := ⟨_, rfl⟩
  have hB4 : Below w3.heap.size w3 w4 := by rw [hw4]; exact Below.setRow (Below.setRow (((Below.refl _ _).alloc (Nat.le_refl _) _).alloc (by simp) _) (Nat.le_refl _) _) (by omega) _
  have hS4 : Blk w4 w3.heap.size 102 (stArr (stRun stInit (padded bs) 0)) := by
    rw [hw4]
    exact (setRow_other _ (w3.heap.size + 1) w3.heap.size _ (by omega)).trans (setRow_heap _ _ _ _ _ _ (heap_alloc2_old _ _ _))
  have hT4 : Blk w4 (w3.heap.size + 1) 26 zero32 := by
    rw [hw4]
    exact setRow_heap _ _ _ _ _ _ ((setRow_other _ w3.heap.size (w3.heap.size + 1) _ (by omega)).trans (heap_alloc2_new _ _ _))
  rw [← hw4]
  have HO4 := Lib.hid ((HO1.out.below Hb3.out (by have := Hs1.out; omega)).below hB4 (by have := Hb3.out.size; have := Hs1.out; omega))
  have HB4 := Lib.hid ((HB1.out.trans (Hb3.out.mono HB1.out.size)).trans (hB4.mono (by have := HB1.out.size; have := Hb3.out.size; omega)))
  have Hr4 := Lib.hid (Hr3.out.below hB4)
  have hs4 : w3.heap.size + 1 < w4.heap.size := hT4.lt
  have hb3 : b < w3.heap.size := Hr3.out.lt (by omega) (by omega) rfl
  have hw3 : w.heap.size < w3.heap.size := by have := Hb3.out.size; have := Hs1.out; omega
  clear hw4 hB4
  have HT4 := Lib.hid hT4
  clear hT4
  go_wp2_with fail
  go_loopw [6] (fun t wr => ∃ k : Nat, 64 * k ≤ L ∧ t = .int .i64 (((64 * k : Nat)) : Int) ∧ Blk wr w3.heap.size 102 (stArr (stRun stInit (padded bs) k)) ∧ KeptIn (fun k => k < w4.heap.size ∧ k ≠ w3.heap.size) w4 wr) (fun t _ => L - (intOf t).toNat)
  case atStart => exact ⟨0, by omega, rfl, hS4, KeptIn.refl _ _⟩
  case round =>
    obtain ⟨k, hk, rfl, hS, hK⟩ := hrel
    clear hS4
    by_cases hlt : 64 * k < L
    · obtain ⟨m, hm⟩ : ∃ m, m = 64 * k := ⟨_, rfl⟩
      rw [← hm] at hlt hk ⊢
      obtain ⟨M, hM⟩ : ∃ M, M = m + 64 := ⟨_, rfl⟩
      have hsl := run_slice_part (P := Tryd.prog) 22 5 b off L c3 m M Tryd.underlying22 size22' (by omega) (by omega) (by omega)
      rw [show M - m = 64 from by omega] at hsl
      have hw64 : (m : Int) + 64 = (M : Int) := by omega
      have hrr : Rd wr 1 (some ⟨b, off, none⟩) L ((padded bs).map byteV) := Hr4.out.keptIn hK (fun b' o' _ e => by cases e; exact ⟨by omega, by omega⟩)
      have hpt := hrr.part (i := m) (j := m + 64) (by omega) (by omega)
      rw [Nat.add_sub_cancel_left] at hpt
      have hst : stRun stInit (padded bs) (k + 1) = stBlock (stRun stInit (padded bs) k) (((padded bs).take (m + 64)).drop m) := by
        rw [stRun]
        subst hm
        refine stBlock_congr (fun j hj => ?_) _
        rw [List.getD_eq_getElem?_getD, List.getD_eq_getElem?_getD, List.getElem?_drop, List.getElem?_drop, List.getElem?_take, if_pos (by omega)]
      have hBk : ∀ W, Below wr.heap.size wr W → Calls Tryd.prog 66 #[.agg (stArr (stRun stInit (padded bs) k)), .slice (some ⟨b, off + m, none⟩) 64 (c3 - m)] W fun e w' => e = .returned (.agg (stArr (stRun stInit (padded bs) (k + 1)))) ∧ Below W.heap.size W w' := fun W hW => by
        rw [hst]
        exact RBlock_any _ _ 64 _ _ W (hpt.below hW) (Nat.le_refl _)
      have Hbk := Lib.hid hBk
      have hSl : wr.heap[w3.heap.size]? = some (.cells (stArr (stRun stInit (padded bs) k)) 102 (0, 0)) := hS
      have hlt3 : w3.heap.size < wr.heap.size := hS.lt
      generalize stRun stInit (padded bs) k = z at *
      generalize hz1 : stRun stInit (padded bs) (k + 1) = z1 at *
      have hrg : ∀ w', Ext wr w' → w'.rangeAt w3.heap.size 0 [u32V z.a, u32V z.b, u32V z.c, u32V z.d, u32V z.e, u32V z.f, u32V z.g, u32V z.h] := fun w' hw' => Blk.range (Blk.below (show Blk wr w3.heap.size 102 [u32V z.a, u32V z.b, u32V z.c, u32V z.d, u32V z.e, u32V z.f, u32V z.g, u32V z.h].toArray from hS) (ext_below hw') hlt3)
      have Hrg := Lib.hid hrg
      have HS := Lib.hid hS
      have Hm := Lib.hid hm
      have HM := Lib.hid hM
      have HK := Lib.hid hK
      have Hz1 := Lib.hid hz1
      clear hpt hst hBk hSl hrg hS hK hz1 hrr hm hM
      go_wp2_with fail
      refine wp_region_reads_tail 7 [0, 1, 2, 3, 4, 5] 1 (by kernel_rfl) (List.take_append_drop _ _) rfl (by kernel_rfl) (by kernel_rfl) (by kernel_rfl) (by decide) (by kernel_rfl) (by kernel_rfl) (fun _ _ d _ _ h => by cases d <;> exact h) (by kernel_rfl) (by kernel_rfl) rfl ?_
      simp only [List.take_succ_cons, List.take_zero, List.drop_succ_cons, List.drop_zero, pickOps, List.getElem?_cons_zero, List.getElem?_cons_succ]
      repeat (first | go_big_quiet_step (fail) | rw [hw64] | (refine wpQuiet_load_mid rfl 102 _ rfl w3.heap.size 0 rfl _ _ Hrg.out und61 rfl (by kernel_rfl) ?_; simp only [Act.put, List.setIfInBounds_toArray, List.set_cons_succ, List.set_cons_zero]))
      refine wpQuiet_nil ?_
      refine wpAnyH_one (i := 6) (by kernel_rfl) rfl ?_
      intro K hK2
      go_simp
      refine (Hbk.out wr.drew (Below.refl _ wr).drew).mono ?_
      rintro e W1 ⟨rfl, hb1⟩
      have hB1 : Below wr.heap.size wr W1 := (Below.refl _ wr).drew.trans hb1
      refine hK2 _ _ (ext_of hB1) ?_
      clear hK2 K
      refine wpAnyH_done (by kernel_rfl) ?_ _
      simp only [Exit.then]
      have hS1 := HS.out.below hB1 hlt3
      refine wpList_store_row rfl 102 (.tmp 3) (.tmp 24) rfl w3.heap.size (stArr z1) rfl rfl 102 (stArr z) hS1 (size61 _ (stArr_size z1)) ((stArr_size z).trans (stArr_size z1).symm) (stArr_one _) ?_
      refine wpList_nil ?_
      have hK5 := (HK.out.trans (KeptIn.of_below hB1 (fun k hk => Nat.lt_of_lt_of_le hk.1 HK.out.size))).setRow (g := w3.heap.size) (fun h => h.2 rfl) (stArr z1)
      have hS5 : Blk (W1.setRow w3.heap.size (stArr z1)) w3.heap.size 102 (stArr z1) := setRow_heap _ _ _ _ _ _ hS1
      have HK5 := Lib.hid hK5
      have HS5 := Lib.hid hS5
      clear hK5 hS5 hS1 hB1 hb1
      simp only [Act.put]
      go_wp2_with fail
      refine ⟨⟨k + 1, by have := Hm.out; omega, by rw [HM.out, Hm.out]; congr 1, by rw [Hz1.out]; exact HS5.out, HK5.out⟩, by have := HM.out; simp [intOf]; omega⟩
    · obtain rfl : k = L / 64 := by omega
      have hsha := sha_run bs
      rw [hLl] at hsha
      generalize stRun stInit (padded bs) (L / 64) = st at *
      have hT : Blk wr (w3.heap.size + 1) 26 zero32 := HT4.out.keptIn hK ⟨by omega, by omega⟩
      have hO3 : Blk wr w.heap.size 26 zero32 := HO4.out.keptIn hK ⟨by omega, by omega⟩
      have hB3 : Below w.heap.size w wr := HB4.out.trans (hK.below (fun k hk => ⟨by omega, by omega⟩))
      have hbg := stBytes_get st
      have Hsha := Lib.hid hsha
      have Hbg := Lib.hid hbg
      obtain ⟨wf, hwf⟩ : ∃ wf, wf = wr := ⟨_, rfl⟩
      subst hwf
      have hcell : ∀ q, q < 8 → wf.cell? ⟨w3.heap.size, q, none⟩ = some (.int .u32 (((stList st).getD q 0).toNat : Int)) := fun q hq => by
        rw [hS.cell q]
        have : q = 0 ∨ q = 1 ∨ q = 2 ∨ q = 3 ∨ q = 4 ∨ q = 5 ∨ q = 6 ∨ q = 7 := by omega
        rcases this with rfl | rfl | rfl | rfl | rfl | rfl | rfl | rfl <;> rfl
      have Hcell := Lib.hid hcell
      have HB3 := Lib.hid hB3
      have HO3 := Lib.hid hO3
      have HT := Lib.hid hT
      have hBs := hS.lt
      have hO3lt := hO3.lt
      have hTlt := hT.lt
      clear hcell hB3 hO3 hS hT hK hbg hsha HO4 HB4 HT4
      go_wp2_with fail
      go_loopw [7] (fun t wx => ∃ i : Nat, i ≤ 32 ∧ t = .int .i64 i ∧ Blk wx (w3.heap.size + 1) 26 (((stBytes st).take i ++ List.replicate (32 - i) 0).map byteV).toArray ∧ KeptIn (fun k => k < wf.heap.size ∧ k ≠ w3.heap.size + 1) wf wx) (fun t _ => 32 - (intOf t).toNat)
      case atStart => exact ⟨0, by omega, rfl, by rw [← zero32_start]; exact HT.out, KeptIn.refl _ _⟩
      case round =>
        obtain ⟨i, hi, rfl, hN1, hK⟩ := hrel
        by_cases hi32 : i < 32
        · have hc := (hK.cell (p := ⟨w3.heap.size, i / 4, none⟩) ⟨hBs, by simp⟩).trans (Hcell.out (i / 4) (by omega))
          have hbi := Hbg.out i hi32
          generalize (stList st).getD (i / 4) 0 = x at *
          have o1 : wr.cell? ⟨w3.heap.size + 1, i, none⟩ = some (.int .u8 0) := by
            rw [hN1.cell i, List.getElem?_toArray, List.getElem?_map, List.getElem?_append_right (by simp [stBytes_length]; omega), List.getElem?_replicate, if_pos (by simp [stBytes_length]; omega)]
            rfl
          have o2 := hN1.frozen i
          have HN := Lib.hid hN1
          have HK := Lib.hid hK
          have Hbi := Lib.hid hbi
          clear hN1 hK hbi
          go_wp2_with fail
          rw [show ((x.toNat : Int) / 2 ^ (24 - 8 * (i % 4)) % 256) = ((UInt8.ofNat (x.toNat / 2 ^ (24 - 8 * (i % 4)))).toNat : Int) from by rw [UInt8.toNat_ofNat']; simp]
          refine ⟨⟨i + 1, by omega, by go_num, ?_, HK.out.setAt (p := ⟨w3.heap.size + 1, i, none⟩) (fun h => h.2 rfl) _⟩, by simp [intOf]; omega⟩
          refine (heap_setCell_same wr _ i _ 26 _ HN.out).trans ?_
          congr 2
          rw [List.setIfInBounds_toArray]
          congr 1
          exact set_next _ i _ stBytes_length' Hbi.out
        · obtain rfl : i = 32 := by omega
          have hO4 := HO3.out.keptIn hK ⟨hO3lt, by omega⟩
          have hB4 := HB3.out.trans (hK.below (fun k hk => ⟨by omega, by omega⟩))
          rw [List.take_of_length_le (by rw [stBytes_length]; omega), Nat.sub_self, List.replicate_zero, List.append_nil, ← Hsha.out] at hN1
          have hcs : ((sha bs).map byteV).toArray.size = 32 := by simp [sha_length bs]
          have HN := Lib.hid hN1
          have HO4 := Lib.hid hO4
          have HB4 := Lib.hid hB4
          clear hN1 hK hO4 hB4
          go_wp2_with (first | (refine wpList_load_row rfl 26 (.tmp 5) rfl (w3.heap.size + 1) rfl 26 ((sha bs).map byteV).toArray (0, 0) _ HN.out und32 rfl (size32 _ hcs) ?_) | (refine wpList_store_row rfl 26 (.tmp 2) (.tmp 41) rfl w.heap.size ((sha bs).map byteV).toArray rfl rfl 26 zero32 HO4.out (size32 _ hcs) (size_zero32.trans hcs.symm) (all_oneCell_toArray (oneB _)) ?_))
          refine bodyPost_ret (results_cell_row rfl _ _ w.heap.size 26 ((sha bs).map byteV).toArray (0, 0) _ rfl (setRow_heap _ _ _ _ _ _ HO4.out) und32 rfl (size32 _ hcs)) rfl ⟨rfl, Below.setRow HB4.out (Nat.le_refl _) _⟩
end

end Go.Proofs.YtfdhiilhjfbehaaDoor
