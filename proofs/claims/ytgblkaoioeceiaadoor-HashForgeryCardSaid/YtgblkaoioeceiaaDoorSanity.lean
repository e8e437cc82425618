/- The law's sanity: the fixed examples. -/
import Derived.Test.YtgblkaoioeceiaaDoorHex
namespace Go.Proofs.YtgblkaoioeceiaaDoor
open Go.RowKit Go.Sort

def la : Sum32 := leafS [97]
def lb : Sum32 := leafS [98]
def lc : Sum32 := leafS [99]
theorem proof3 (A B C : Sum32) : proofL [A, B, C] 2 = [pairS A B] := by kernel_rfl
theorem root3 (A B C : Sum32) : rootL [A, B, C] = pairS (pairS A B) C := by kernel_rfl
theorem chk3 (A B C : Sum32) : chkL 3 2 C [pairS A B] = some (pairS (pairS A B) C) := by kernel_rfl
theorem chk3' (A B C : Sum32) : chkL 3 1 C [pairS A B] = none := by kernel_rfl

def h1 : ByteArray := { data := #[98, 49, 51, 55, 57, 56, 53, 102, 102, 52, 56, 52, 102, 98, 54, 48, 48, 100, 98, 57, 51, 49, 48, 55, 99, 55, 55, 98, 48, 51, 54, 53, 99, 56, 48, 100, 55, 56, 102, 53, 98, 52, 50, 57, 100, 101, 100, 48, 102, 100, 57, 55, 51, 54, 49, 100, 48, 55, 55, 57, 57, 57, 101, 98] }
def h2 : ByteArray := { data := #[101, 51, 98, 48, 99, 52, 52, 50, 57, 56, 102, 99, 49, 99, 49, 52, 57, 97, 102, 98, 102, 52, 99, 56, 57, 57, 54, 102, 98, 57, 50, 52, 50, 55, 97, 101, 52, 49, 101, 52, 54, 52, 57, 98, 57, 51, 52, 99, 97, 52, 57, 53, 57, 57, 49, 98, 55, 56, 53, 50, 98, 56, 53, 53] }
def h3 : ByteArray := { data := #[98, 97, 55, 56, 49, 54, 98, 102, 56, 102, 48, 49, 99, 102, 101, 97, 52, 49, 52, 49, 52, 48, 100, 101, 53, 100, 97, 101, 50, 50, 50, 51, 98, 48, 48, 51, 54, 49, 97, 51, 57, 54, 49, 55, 55, 97, 57, 99, 98, 52, 49, 48, 102, 102, 54, 49, 102, 50, 48, 48, 49, 53, 97, 100] }
def h4 : ByteArray := { data := #[51, 54, 54, 52, 50, 101, 55, 51, 99, 50, 53, 52, 48, 97, 98, 49, 50, 49, 101, 51, 97, 54, 98, 102, 57, 53, 52, 53, 98, 48, 97, 50, 52, 57, 56, 50, 99, 100, 56, 51, 48, 101, 98, 49, 51, 100, 51, 99, 100, 49, 57, 100, 101, 51, 99, 101, 54, 99, 48, 50, 49, 101, 99, 49] }
theorem hex1 : str (hexL (pairS (leafS [97]) (leafS [98])).1) = h1 := by decide +kernel
theorem hex2 : str (hexL (shaS []).1) = h2 := by decide +kernel
theorem hex3 : str (hexL (shaS [97, 98, 99]).1) = h3 := by decide +kernel
theorem hex4 : str (hexL (root [[97], [98], [99]]).1) = h4 := by decide +kernel
/-- A read of an array that is known as a list, under a guard that holds. -/
theorem wpQuiet_load_mid_g {P : Program} {ops : Array Oper} {rest : List Oper} {op : Oper} {a : Act} {C : World → Prop} {Q1 : Act → Prop} (hw : Region.wanted op (yielded ops a.tmps) = true) (ty : TypeId) (x : Operand) (ho : op.op = .load ty x)
    (b o : Nat) (hx : a.eval x = .pointer (some ⟨b, o, none⟩)) (cs : List Value) (d : TypeDesc) (hS : ∀ w, C w → w.rangeAt b o cs)
    (hu : P.underlying ty = some d) (hd : d.isRow = true) (hi : (P.info? ty).map (·.size) = some cs.length)
    (h : wpQuiet P ops C Q1 rest (a.put op.dst (.agg cs.toArray))) : wpQuiet P ops C Q1 (op :: rest) a := by
  unfold wpQuiet
  rw [if_pos hw]
  refine ⟨_, fun w hC => ?_, h⟩
  unfold Oper.quietAt execOp
  simp only [ho, hx, Instr.loadAt, Instr.sureAddr, Sem.run_bind, Sem.run_pure, Result.andThen_ok, run_loadVar_mid w b o ty cs d (hS w hC) hu hd hi]
  exact ⟨rfl, rfl⟩
/-- '[]byte("abc")' as the model has it: the block's end is marked. -/
theorem run_convert_lit (b n c : Nat) (cs : Array Value) (W : World) (h : W.heap[b]? = some (.cells cs 5 (0, 0))) :
    ∃ W2, (convert 22 22 (.slice (some ⟨b, 0, none⟩) n c)).run Tryd.prog W = .ok (.slice (some ⟨b, 0, none⟩) n c) W2 ∧ Below b W W2 ∧ (∀ p v, W.cell? p = some v → W2.cell? p = some v) := by
  have h5 := Tryd.underlying22
  have h6 : Tryd.prog.underlying 5 = some (.int .u8) := by kernel_rfl
  have hsh : W.shape? b = some (5, cs.size) := by unfold World.shape?; rw [h]
  have hne : ∀ k, k ≠ b → (W.freeze ⟨b, cs.size, none⟩ 1).heap[k]? = W.heap[k]? := fun k hk => by
    unfold World.freeze
    rw [if_neg (by omega)]
    simp only [Array.getElem?_modify]
    rw [if_neg (fun e => hk e.symm)]
  obtain ⟨fr, hfr⟩ : ∃ fr, (W.freeze ⟨b, cs.size, none⟩ 1).heap[b]? = some (.cells cs 5 fr) := by
    unfold World.freeze
    rw [if_neg (by omega)]
    simp only [Array.getElem?_modify, if_true, h, Option.map_some]
    exact ⟨_, rfl⟩
  have hos : (W.freeze ⟨b, cs.size, none⟩ 1).os = W.os ∧ (W.freeze ⟨b, cs.size, none⟩ 1).tape = W.tape ∧ (W.freeze ⟨b, cs.size, none⟩ 1).output = W.output ∧ (W.freeze ⟨b, cs.size, none⟩ 1).heap.size = W.heap.size := by
    unfold World.freeze
    rw [if_neg (by omega)]
    exact ⟨rfl, rfl, rfl, by simp⟩
  refine ⟨W.freeze ⟨b, cs.size, none⟩ 1, ?_, ⟨hos.1, hos.2.1, hos.2.2.1, by rw [hos.2.2.2]; exact Nat.le_refl _, fun k hk => hne k (by omega)⟩, ?_⟩
  · unfold convert
    simp [run_underlying h5, run_underlying h6, markStringish, hsh]
  · intro p v hp
    unfold World.cell? at hp ⊢
    by_cases hpb : p.block = b
    · rw [hpb] at hp ⊢
      rw [h] at hp
      rw [hfr]
      exact hp
    · rw [hne _ hpb]
      exact hp
/-- A new slice of slices of bytes: three of one byte. -/
theorem Lst3 {w : World} {b b0 b1 b2 : Nat} {x0 x1 x2 : UInt8} (h : Blk w b 22 #[.slice (some ⟨b0, 0, none⟩) 1 1, .slice (some ⟨b1, 0, none⟩) 1 1, .slice (some ⟨b2, 0, none⟩) 1 1])
    (h0 : Blk w b0 5 #[byteV x0]) (h1 : Blk w b1 5 #[byteV x1]) (h2 : Blk w b2 5 #[byteV x2]) : Lst w (some ⟨b, 0, none⟩) 3 [[x0], [x1], [x2]] := by
  refine ⟨[⟨some ⟨b0, 0, none⟩, 1, 1⟩, ⟨some ⟨b1, 0, none⟩, 1, 1⟩, ⟨some ⟨b2, 0, none⟩, 1, 1⟩], h.rd (xs := _) (by simp), rfl, ?_⟩
  intro k v c hv hc
  have hk : k < 3 := by have := (List.getElem?_eq_some_iff.1 hc).1; simpa using this
  have : k = 0 ∨ k = 1 ∨ k = 2 := by omega
  rcases this with rfl | rfl | rfl
  · cases hv; cases hc; exact ⟨h0.rd (xs := [byteV x0]) (by simp), Nat.le_refl _⟩
  · cases hv; cases hc; exact ⟨h1.rd (xs := [byteV x1]) (by simp), Nat.le_refl _⟩
  · cases hv; cases hc; exact ⟨h2.rd (xs := [byteV x2]) (by simp), Nat.le_refl _⟩

set_option maxRecDepth 100000 in
set_option maxHeartbeats 1000000 in
theorem Sanity_any (w : World) (hg : Globs w) : Calls Tryd.prog 10 #[] w fun e w' => e = .returned (.bool true) ∧ Below w.heap.size w w' := by
  go_enter Tryd.func10, Tryd.ntmps10
  go_upto_region 2 with fail
  obtain ⟨w4, hw4⟩ : ∃ w4, w4 = ((((w.alloc (.cells #[.int .u8 97] 5)).alloc (.cells #[.int .u8 98] 5)).alloc (.cells #[.int .u8 99] 5)).alloc (.cells #[.slice (some ⟨w.heap.size, 0, none⟩) 1 1, .slice (some ⟨w.heap.size + 1, 0, none⟩) 1 1, .slice (some ⟨w.heap.size + 1 + 1, 0, none⟩) 1 1] 22)) := ⟨_, rfl⟩
  rw [← hw4]
  have hB4 : Below w.heap.size w w4 := by rw [hw4]; exact ((((Below.refl _ _).alloc (Nat.le_refl _) _).alloc (by simp) _).alloc (by simp; omega) _).alloc (by simp; omega) _
  have q0 : Blk w4 w.heap.size 5 #[byteV 97] := by rw [hw4]; exact (((Blk.new _ _ _).alloc _).alloc _).alloc _
  have q1 : Blk w4 (w.heap.size + 1) 5 #[byteV 98] := by
    rw [hw4]
    have := ((Blk.new (w.alloc (.cells #[.int .u8 97] 5)) 5 #[byteV 98]).alloc (.cells #[.int .u8 99] 5)).alloc (.cells #[.slice (some ⟨w.heap.size, 0, none⟩) 1 1, .slice (some ⟨w.heap.size + 1, 0, none⟩) 1 1, .slice (some ⟨w.heap.size + 1 + 1, 0, none⟩) 1 1] 22)
    rwa [World.size_alloc] at this
  have q2 : Blk w4 (w.heap.size + 1 + 1) 5 #[byteV 99] := by
    rw [hw4]
    have := (Blk.new ((w.alloc (.cells #[.int .u8 97] 5)).alloc (.cells #[.int .u8 98] 5)) 5 #[byteV 99]).alloc (.cells #[.slice (some ⟨w.heap.size, 0, none⟩) 1 1, .slice (some ⟨w.heap.size + 1, 0, none⟩) 1 1, .slice (some ⟨w.heap.size + 1 + 1, 0, none⟩) 1 1] 22)
    rwa [World.size_alloc, World.size_alloc] at this
  have q3 : Blk w4 (w.heap.size + 1 + 1 + 1) 22 #[.slice (some ⟨w.heap.size, 0, none⟩) 1 1, .slice (some ⟨w.heap.size + 1, 0, none⟩) 1 1, .slice (some ⟨w.heap.size + 1 + 1, 0, none⟩) 1 1] := by
    rw [hw4]
    have := Blk.new (((w.alloc (.cells #[.int .u8 97] 5)).alloc (.cells #[.int .u8 98] 5)).alloc (.cells #[.int .u8 99] 5)) 22 #[.slice (some ⟨w.heap.size, 0, none⟩) 1 1, .slice (some ⟨w.heap.size + 1, 0, none⟩) 1 1, .slice (some ⟨w.heap.size + 1 + 1, 0, none⟩) 1 1]
    rwa [World.size_alloc, World.size_alloc, World.size_alloc] at this
  have hL : Lst w4 (some ⟨w.heap.size + 1 + 1 + 1, 0, none⟩) 3 [[97], [98], [99]] := Lst3 q3 q0 q1 q2
  have hc2 := q3.cell 2
  have hR2 : Rd w4 1 (some ⟨w.heap.size + 1 + 1, 0, none⟩) 1 ([99].map byteV) := q2.rd (xs := [byteV 99]) (by simp)
  have hg4 := hg.below hB4
  have hcs : ∀ c ∈ ([[97], [98], [99]] : List (List UInt8)), c.length ≤ 8796093022000 := by simp
  generalize w.heap.size + 1 + 1 + 1 = gl at *
  generalize w.heap.size + 1 + 1 = gc at *
  have hsz := q3.lt
  have h1 := Proof_any (some ⟨gl, 0, none⟩) 3 3 2 _ w4 hg4 hL (by omega) hcs (by omega)
  rw [show proofL ([[97], [98], [99]].map leafS) 2 = [pairS la lb] from proof3 la lb lc] at h1
  have HL := Lib.hid hL
  have Hg4 := Lib.hid hg4
  have HB4 := Lib.hid hB4
  have Hc2 := Lib.hid hc2
  have HR2 := Lib.hid hR2
  have H1 := Lib.hid h1
  have Hcs := Lib.hid hcs
  clear hw4 hB4 q0 q1 q2 q3 hL hc2 hR2 hg4 hcs h1
  go_wp2_with fail
  refine H1.out.mono ?_
  rintro e w5 ⟨A5, n5, c5, rfl, hc5, hr5, hb5⟩
  obtain rfl : n5 = 1 := (hr5.lenf sumC_len (by omega)).symm
  obtain ⟨b5, o5, rfl, _⟩ := hr5.2.2 (by omega)
  have hx5 := hr5.range32 (k := 0) (by omega)
  rw [Nat.zero_mul, Nat.add_zero, show [pairS la lb].getD 0 z32 = pairS la lb from rfl] at hx5
  have H2 := Lib.hid (Proof_bad (some ⟨gl, 0, none⟩) 3 3 3 (.inr (by omega)) w5 (by omega))
  have Hx5 := Lib.hid hx5
  have Hr5 := Lib.hid hr5
  have Hb5 := Lib.hid hb5
  clear hx5 hr5 hb5
  go_wp2_with fail
  refine H2.out.mono ?_
  rintro e w6 ⟨rfl, rfl⟩
  have hhex : ∀ W, Calls Tryd.prog 27 #[.agg (sumC (pairS la lb)).toArray] W fun e w' => e = .returned (.string h1) ∧ Below W.heap.size W w' := fun W => by
    have := Hex_any (pairS la lb) W
    rw [show str (hexL (pairS la lb).1) = h1 from hex1] at this
    exact this
  have heq : (h1.toList == [98, 49, 51, 55, 57, 56, 53, 102, 102, 52, 56, 52, 102, 98, 54, 48, 48, 100, 98, 57, 51, 49, 48, 55, 99, 55, 55, 98, 48, 51, 54, 53, 99, 56, 48, 100, 55, 56, 102, 53, 98, 52, 50, 57, 100, 101, 100, 48, 102, 100, 57, 55, 51, 54, 49, 100, 48, 55, 55, 57, 57, 57, 101, 98]) = true := by decide +kernel
  generalize h1 = S1 at *
  have Hhex := Lib.hid hhex
  clear hhex
  go_wp2_with (refine wpList_load_mid_g (by first | rfl | simp [Region.wanted, yielded]) 32 (.tmp 35) rfl b5 o5 rfl (sumC (pairS la lb)) _ Hx5.out und32 rfl (by rw [sumC_len]; kernel_rfl) ?_)
  refine (Hhex.out _).mono ?_
  rintro e w7 ⟨rfl, hb7⟩
  have hb47 := Hb5.out.trans (hb7.mono Hb5.out.size)
  have Hr7 := Lib.hid (Hr5.out.below hb7)
  have Hb47 := Lib.hid hb47
  clear hb7 hb47
  have H3 := Lib.hid (Root_any (some ⟨gl, 0, none⟩) 3 3 _ w7 (Hg4.out.below Hb47.out) (HL.out.below Hb47.out) (by omega) Hcs.out)
  go_wp2_with fail
  refine H3.out.mono ?_
  rintro e w8 ⟨rfl, hb8⟩
  clear heq
  unfold sumV
  have hrl : (root [[97], [98], [99]]).1.length = 32 := (root [[97], [98], [99]]).2
  go_wp2_with (refine wpList_store_row rfl 32 (.tmp 6) (.tmp 41) rfl w8.heap.size _ rfl rfl 32 zero32 (heap_alloc_new _ _) (size32 _ (sumV_size hrl)) ((zero32_size).trans (sumV_size hrl).symm) (all_oneCell_toArray (oneB _)) ?_; simp only [Act.put])
  have hX9 : Blk ((w8.alloc (.cells zero32 32)).setRow w8.heap.size ((root [[97], [98], [99]]).1.map byteV).toArray) w8.heap.size 32 (sumC (root [[97], [98], [99]])).toArray := setRow_heap _ _ _ _ _ _ (heap_alloc_new _ _)
  have hB9 : Below w8.heap.size w8 ((w8.alloc (.cells zero32 32)).setRow w8.heap.size ((root [[97], [98], [99]]).1.map byteV).toArray) := Below.setRow ((Below.refl _ _).alloc (Nat.le_refl _) _) (Nat.le_refl _) _
  obtain ⟨w9, hw9⟩ : ∃ w9, w9 = (w8.alloc (.cells zero32 32)).setRow w8.heap.size ((root [[97], [98], [99]]).1.map byteV).toArray := ⟨_, rfl⟩
  rw [← hw9] at hX9 hB9
  simp only [zero32, List.replicate_succ, List.replicate_zero] at hw9
  rw [← hw9]
  have hb49 : Below w4.heap.size w4 w9 := (Hb47.out.trans (hb8.mono Hb47.out.size)).trans (hB9.mono (by have := Hb47.out.size; have := hb8.size; omega))
  have hr9 : Rd w9 32 (some ⟨b5, o5, none⟩) 1 ([pairS la lb].flatMap sumC) := (Hr7.out.below hb8).below hB9
  have hs49 := hb49.size
  have hx8 := hX9.lt
  have hroot : root [[97], [98], [99]] = pairS (pairS la lb) lc := root3 la lb lc
  have hh4 := hex4
  generalize root [[97], [98], [99]] = rt at *
  have hhex2 : ∀ W, Calls Tryd.prog 27 #[.agg (sumC (shaS [])).toArray] W fun e w' => e = .returned (.string h2) ∧ Below W.heap.size W w' := fun W => by
    have := Hex_any (shaS []) W
    rw [show str (hexL (shaS []).1) = h2 from hex2] at this
    exact this
  have hhex3 : ∀ W, Calls Tryd.prog 27 #[.agg (sumC (shaS [97, 98, 99])).toArray] W fun e w' => e = .returned (.string h3) ∧ Below W.heap.size W w' := fun W => by
    have := Hex_any (shaS [97, 98, 99]) W
    rw [show str (hexL (shaS [97, 98, 99]).1) = h3 from hex3] at this
    exact this
  have hhex4 : ∀ W, Calls Tryd.prog 27 #[.agg (sumC rt).toArray] W fun e w' => e = .returned (.string h4) ∧ Below W.heap.size W w' := fun W => by
    have := Hex_any rt W
    rw [hh4] at this
    exact this
  have heq2 : (h2.toList == [101, 51, 98, 48, 99, 52, 52, 50, 57, 56, 102, 99, 49, 99, 49, 52, 57, 97, 102, 98, 102, 52, 99, 56, 57, 57, 54, 102, 98, 57, 50, 52, 50, 55, 97, 101, 52, 49, 101, 52, 54, 52, 57, 98, 57, 51, 52, 99, 97, 52, 57, 53, 57, 57, 49, 98, 55, 56, 53, 50, 98, 56, 53, 53]) = true := by decide +kernel
  have heq3 : (h3.toList == [98, 97, 55, 56, 49, 54, 98, 102, 56, 102, 48, 49, 99, 102, 101, 97, 52, 49, 52, 49, 52, 48, 100, 101, 53, 100, 97, 101, 50, 50, 50, 51, 98, 48, 48, 51, 54, 49, 97, 51, 57, 54, 49, 55, 55, 97, 57, 99, 98, 52, 49, 48, 102, 102, 54, 49, 102, 50, 48, 48, 49, 53, 97, 100]) = true := by decide +kernel
  have heq4 : (h4.toList == [51, 54, 54, 52, 50, 101, 55, 51, 99, 50, 53, 52, 48, 97, 98, 49, 50, 49, 101, 51, 97, 54, 98, 102, 57, 53, 52, 53, 98, 48, 97, 50, 52, 57, 56, 50, 99, 100, 56, 51, 48, 101, 98, 49, 51, 100, 51, 99, 100, 49, 57, 100, 101, 51, 99, 101, 54, 99, 48, 50, 49, 101, 99, 49]) = true := by decide +kernel
  generalize h2 = S2 at *
  generalize h3 = S3 at *
  generalize h4 = S4 at *
  have hsumn : ∀ W, Globs W → Calls Tryd.prog 14 #[.slice none 0 0] W fun e w' => e = .returned (.agg (sumC (shaS [])).toArray) ∧ Below W.heap.size W w' := fun W hW => Sum_any none 0 0 [] W hW (Rd.nil _ _ _) (by omega) (by omega)
  have hsuma : ∀ W b, Globs W → Rd W 1 (some ⟨b, 0, none⟩) 3 ([97, 98, 99].map byteV) → Calls Tryd.prog 14 #[.slice (some ⟨b, 0, none⟩) 3 3] W fun e w' => e = .returned (.agg (sumC (shaS [97, 98, 99])).toArray) ∧ Below W.heap.size W w' := fun W b hW hb => Sum_any (some ⟨b, 0, none⟩) 3 3 [97, 98, 99] W hW hb (by omega) (by omega)
  generalize hsn : shaS [] = sn at *
  generalize hsa : shaS [97, 98, 99] = sa at *
  have Hhex2 := Lib.hid hhex2
  have Hhex3 := Lib.hid hhex3
  have Hhex4 := Lib.hid hhex4
  have Hsumn := Lib.hid hsumn
  have Hsuma := Lib.hid hsuma
  have Hb49 := Lib.hid hb49
  have Hr9 := Lib.hid hr9
  have HX9 := Lib.hid hX9
  have Hroot := Lib.hid hroot
  have Hsn := Lib.hid hsn
  clear hw9 hB9 hb8 hb49 hr9 hroot hh4 hhex2 hhex3 hhex4 hsumn hsuma hX9 hsn hsa hrl
  have Hg9 := Lib.hid (Hg4.out.below Hb49.out)
  refine (Hsumn.out w9 Hg9.out).mono ?_
  rintro e wa ⟨rfl, hba⟩
  have Hba := Lib.hid hba
  clear hba
  go_wp2_with fail
  refine (Hhex2.out wa).mono ?_
  rintro e wb ⟨rfl, hbb⟩
  have Hbb := Lib.hid (Hba.out.trans (hbb.mono Hba.out.size))
  clear hbb
  obtain ⟨wv, hcv, hbv, hcl⟩ := run_convert_lit wb.heap.size 3 3 #[.int .u8 97, .int .u8 98, .int .u8 99] (wb.alloc (.cells #[.int .u8 97, .int .u8 98, .int .u8 99] 5)) (heap_alloc_new _ _)
  have hbv2 : Below wb.heap.size wb wv := ((Below.refl _ wb).alloc (Nat.le_refl _) _).trans hbv
  have hrv : Rd wv 1 (some ⟨wb.heap.size, 0, none⟩) 3 ([97, 98, 99].map byteV) := ((Blk.new wb 5 #[byteV 97, byteV 98, byteV 99]).rd (xs := [byteV 97, byteV 98, byteV 99]) (by simp)).keep hcl
  have Hbv := Lib.hid hbv2
  have Hrv := Lib.hid hrv
  clear hbv hcl hbv2 hrv
  go_wp2_with fail
  refine (Hsuma.out _ _ ((Hg9.out.below Hbb.out).below Hbv.out) Hrv.out).mono ?_
  rintro e wc ⟨rfl, hbc⟩
  have Hbc := Lib.hid (Hbb.out.trans ((Hbv.out.trans (hbc.mono Hbv.out.size)).mono Hbb.out.size))
  clear hbc hcv
  go_wp2_with fail
  refine (Hhex3.out wc).mono ?_
  rintro e wd ⟨rfl, hbd⟩
  have Hbd := Lib.hid (Hbc.out.trans (hbd.mono Hbc.out.size))
  clear hbd
  have hxd : wd.rangeAt w8.heap.size 0 (sumC rt) := Blk.range (HX9.out.below Hbd.out hx8)
  have Hxd := Lib.hid hxd
  clear hxd
  go_wp2_with (refine wpList_load_mid_g (by first | rfl | simp [Region.wanted, yielded]) 32 (.tmp 6) rfl w8.heap.size 0 rfl (sumC rt) _ Hxd.out und32 rfl (by rw [sumC_len]; kernel_rfl) ?_)
  refine (Hhex4.out wd).mono ?_
  rintro e we ⟨rfl, hbe⟩
  have Hbe := Lib.hid (Hbd.out.trans (hbe.mono Hbd.out.size))
  clear hbe
  go_upto_region 8 with fail
  have hb4e := Hb49.out.trans (Hbe.out.mono Hb49.out.size)
  have hge := Hg4.out.below hb4e
  have hce : we.cell? ⟨gl, 2, none⟩ = some (.slice (some ⟨gc, 0, none⟩) 1 1) := (hb4e.cell (p := ⟨gl, 2, none⟩) hsz).trans Hc2.out
  have hre := HR2.out.below hb4e
  have hpe := Hr9.out.below Hbe.out
  have hxe := Blk.range (HX9.out.below Hbe.out hx8)
  have hc3 : chkL 3 2 (leafS [99]) [pairS la lb] = some rt := by rw [Hroot.out]; exact chk3 la lb lc
  have hc4 : chkL 3 1 (leafS [99]) [pairS la lb] = none := chk3' la lb lc
  have B := fun d os => below_regrown we d os
  have k1 : ∀ d os, Calls Tryd.prog 23 #[.agg (sumC rt).toArray, .int .i64 3, .int .i64 2, .slice (some ⟨gc, 0, none⟩) 1 1, .slice (some ⟨b5, o5, none⟩) 1 c5] (grow (redrawn we d) os) fun e w'' => e = .returned (.bool true) ∧ ∃ p : Regrown, w'' = grow (redrawn we p.d) p.os := fun d os => by
    have := Check_any rt 3 2 (some ⟨gc, 0, none⟩) (some ⟨b5, o5, none⟩) 1 1 1 c5 [99] [pairS la lb] (by omega) (by omega) _ (hge.below (B d os)) (hre.below (B d os)) (by omega) (hpe.below (B d os)) hc5
    rw [hc3, decide_eq_true rfl] at this
    exact Calls.regrown_of this
  have k2 : ∀ d os, Calls Tryd.prog 23 #[.agg (sumC rt).toArray, .int .i64 3, .int .i64 1, .slice (some ⟨gc, 0, none⟩) 1 1, .slice (some ⟨b5, o5, none⟩) 1 c5] (grow (redrawn we d) os) fun e w'' => e = .returned (.bool false) ∧ ∃ p : Regrown, w'' = grow (redrawn we p.d) p.os := fun d os => by
    have := Check_any rt 3 1 (some ⟨gc, 0, none⟩) (some ⟨b5, o5, none⟩) 1 1 1 c5 [99] [pairS la lb] (by omega) (by omega) _ (hge.below (B d os)) (hre.below (B d os)) (by omega) (hpe.below (B d os)) hc5
    rw [hc4, decide_eq_false (by simp)] at this
    exact Calls.regrown_of this
  have k3 : ∀ d os, Calls Tryd.prog 23 #[.agg (sumC rt).toArray, .int .i64 3, .int .i64 3, .slice (some ⟨gc, 0, none⟩) 1 1, .slice (some ⟨b5, o5, none⟩) 1 c5] (grow (redrawn we d) os) fun e w'' => e = .returned (.bool false) ∧ ∃ p : Regrown, w'' = grow (redrawn we p.d) p.os := fun d os =>
    Calls.regrown_of (Check_bad rt 3 3 _ _ _ _ _ _ (.inr (by omega)) _)
  have k4 : ∀ d os, Calls Tryd.prog 20 #[.slice none 0 0] (grow (redrawn we d) os) fun e w'' => e = .returned (.agg (sumC sn).toArray) ∧ ∃ p : Regrown, w'' = grow (redrawn we p.d) p.os := fun d os => by
    have := Root_any none 0 0 [] _ (hge.below (B d os)) ⟨[], Rd.nil _ _ _, rfl, fun k v c h => by simp at h⟩ (by omega) (by simp)
    rw [show root [] = sn from Hsn.out] at this
    exact Calls.regrown_of this
  have k5 : ∀ d os, Calls Tryd.prog 14 #[.slice none 0 0] (grow (redrawn we d) os) fun e w'' => e = .returned (.agg (sumC sn).toArray) ∧ ∃ p : Regrown, w'' = grow (redrawn we p.d) p.os := fun d os =>
    Calls.regrown_of (Hsumn.out _ (hge.below (B d os)))
  have hx' : ∀ w', (∃ p : Regrown, w' = grow (redrawn we p.d) p.os) → w'.rangeAt w8.heap.size 0 (sumC rt) := fun w' hw' j v hv => ((ext_below hw').cell (World.block_lt_of_cell? we _ (hxe j v hv))).trans (hxe j v hv)
  have hE : ∀ W, (binOp .eql 32 (.agg (sumC sn).toArray) (.agg (sumC sn).toArray)).run Tryd.prog W = .ok (.bool true) W := fun W => by rw [run_eql_sum, decide_eq_true rfl]
  have kc := cell_regrown hce
  have HBe := Lib.hid (HB4.out.trans (hb4e.mono HB4.out.size))
  have Hx' := Lib.hid hx'
  clear hb4e hge hce hre hpe hxe hc3 hc4 B hx' heq2 heq3 heq4
  refine wp_region_quiet_below (by kernel_rfl) (by kernel_rfl) ?_
  repeat (first | go_big_quiet_step (first | with_reducible exact k1 _ _ | with_reducible exact k2 _ _ | with_reducible exact k3 _ _ | with_reducible exact k4 _ _ | with_reducible exact k5 _ _) | (refine wpQuiet_load_mid_g (by first | rfl | simp [Region.wanted, yielded]) 32 (.tmp 6) rfl w8.heap.size 0 rfl (sumC rt) _ Hx'.out und32 rfl (by rw [sumC_len]; kernel_rfl) ?_; simp only [Act.put, List.setIfInBounds_toArray, List.set_cons_succ, List.set_cons_zero]))
  refine wpQuiet_nil ?_
  intro wz hwz
  have hbz := HBe.out.trans ((ext_below hwz).mono HBe.out.size)
  have Hbz := Lib.hid hbz
  clear hbz hwz k1 k2 k3 k4 k5 kc hE
  go_wp2
  go_ret
  exact ⟨rfl, Hbz.out⟩
end Go.Proofs.YtgblkaoioeceiaaDoor
