/- The reference's Padded. The reference's words of a block, its numbers, its first state. -/
import Derived.Test.YtfdhiilhjfbehaaDoorH3
import Derived.Great.BuildSlice
import Derived.StillTailTactics
import Derived.BigRegion
namespace Go.Proofs.YtfdhiilhjfbehaaDoor
section
open Go.RowKit

theorem lit_rd (w : World) (v : Value) : Rd (w.alloc (.cells #[v] 5)) 1 (some ⟨w.heap.size, 0, none⟩) 1 [v] :=
  ⟨rfl, by omega, fun _ => ⟨_, _, rfl, fun j u hu => by have := cells_new w [v] 5 j u hu; rwa [Addr.add_mid] at this⟩⟩
theorem App.lit {w w0 : World} {base n : Nat} {v : Value} {xs : List Value} (h : App w base 5 v n xs) (o : Obj) (_h0 : w0 = w) : App (w.alloc o) base 5 v n xs := h.below ((Below.refl w.heap.size w).alloc (Nat.le_refl _) o) (Nat.le_refl _)

set_option maxRecDepth 100000 in
set_option maxHeartbeats 1000000 in
theorem RPad_any (A : Option Addr) (len cap : Nat) (bs : List UInt8) (w : World) (hr : Rd w 1 A len (bs.map byteV)) (hlen : len ≤ 8796093022208) :
    Calls Tryd.prog 65 #[.slice A len cap] w fun e w' => ∃ A' n' c', e = .returned (.slice A' n' c') ∧ n' ≤ c' ∧ Rd w' 1 A' n' ((padded bs).map byteV) ∧ Below w.heap.size w w' := by
  obtain ⟨i0, hi0, hz0, hz1, hz2⟩ := info_parts info5
  have hl := hr.len1
  have hpz := padLen_lt bs.length
  have hpd : padLen bs.length = (119 - bs.length % 64) % 64 := rfl
  have hpp : padded bs = bs ++ 0x80 :: List.replicate (padLen bs.length) 0 ++ (List.range 8).map (lenByte bs.length) := rfl
  rw [hpp]
  subst hl
  generalize padLen bs.length = pz at *
  have Hpd := Lib.hid hpd
  clear hpd hpp
  go_enter Tryd.func65, Tryd.ntmps65
  go_wp2_with (first | (at_builtin; refine wpList_app rfl (.tmp 5) (.tmp 6) 22 rfl 5 i0 (.int .u8 0) 1 Tryd.underlying22 hi0 hz0 hz1 hz2 rfl w.heap.size (by simp) _ 0 [] rfl (.inl ⟨rfl, rfl, _, rfl⟩) A bs.length cap (bs.map byteV) rfl (hr.alloc _) (oneB _) (by unfold maxLen; omega) (by omega) ?_; intro v1 w1 happ1 hb1; rw [Nat.zero_add, List.nil_append] at happ1; have Hb1 := Lib.hid (((Below.refl _ w).alloc (Nat.le_refl _) (.cells #[] 5)).trans hb1); have hs1 := Hb1.out.size; have Happ1 := Lib.hid happ1; clear happ1 hb1) | (at_builtin; refine wpList_app rfl (.tmp 8) (.tmp 9) 22 rfl 5 i0 (.int .u8 0) 1 Tryd.underlying22 hi0 hz0 hz1 hz2 rfl w.heap.size (by simp; omega) _ _ _ rfl (Happ1.out.lit _ rfl) (some ⟨w1.heap.size, 0, none⟩) 1 1 [.int .u8 128] rfl (lit_rd _ _) (by simp [Value.oneCell']) (by unfold maxLen; omega) (by omega) ?_; intro v2 w2 happ2 hb2; have Happ2 := Lib.hid happ2; have Hb2 := Lib.hid ((Hb1.out.alloc hs1 (.cells #[.int .u8 128] 5)).trans hb2); clear happ2 hb2))
  have hA2 : App w2 w.heap.size 5 v2 (bs.length + 1 + 0) ((bs ++ 0x80 :: List.replicate 0 0).map byteV) := by simpa [byteV] using Happ2.out
  have HA2 := Lib.hid hA2
  clear hA2 hr
  go_loopw [3] (fun v wx => ∃ z : Nat, z ≤ pz ∧ App wx w.heap.size 5 v (bs.length + 1 + z) ((bs ++ 0x80 :: List.replicate z 0).map byteV) ∧ Below w.heap.size w wx) (fun v _ => bs.length + 200 - slLen v)
  case atStart => exact ⟨0, by omega, HA2.out, Hb2.out⟩
  case round =>
    obtain ⟨z, hz, happ, hB⟩ := hrel
    obtain ⟨Az, cz, rfl, hcz, hRz⟩ := happ.rd
    by_cases h56 : (bs.length + 1 + z) % 64 = 56
    · obtain rfl : z = pz := by have := Hpd.out; omega
      have hA3 : App wr w.heap.size 5 (.slice Az (bs.length + 1 + z) cz) (bs.length + 1 + z + 0) ((bs ++ 0x80 :: List.replicate z 0 ++ (List.range 0).map (lenByte bs.length)).map byteV) := by simpa using happ
      have HA3 := Lib.hid hA3
      have HB3 := Lib.hid hB
      clear hRz happ hB hA3
      go_wp2_with fail
      have H56 := Lib.hid h56
      clear h56
      generalize Value.bool (((bs.length : Int) + 1 + (z : Int)) % 64 != 56) = vb
      go_loopw [3, 4] (fun v t wx => ∃ j : Nat, j ≤ 8 ∧ t = .int .i64 (56 - 8 * (j : Int)) ∧ App wx w.heap.size 5 v (bs.length + 1 + z + j) ((bs ++ 0x80 :: List.replicate z 0 ++ (List.range j).map (lenByte bs.length)).map byteV) ∧ Below w.heap.size w wx) (fun v _ _ => bs.length + 200 - slLen v)
      case atStart => exact ⟨0, by omega, rfl, HA3.out, HB3.out⟩
      case round =>
        obtain ⟨j, hj, rfl, happ, hB⟩ := hrel
        obtain ⟨Az', cz', rfl, hcz', hRz⟩ := happ.rd
        by_cases hj8 : j < 8
        · have HB := Lib.hid hB
          have Happ := Lib.hid happ
          have hsz3 := hB.size
          clear hB happ hRz
          have hlb := lenByte_val bs.length j hj8 hlen
          have Hlb := Lib.hid hlb
          clear hlb
          go_wp2_with (at_builtin; refine wpList_app rfl (.tmp 22) (.tmp 30) 22 rfl 5 i0 (.int .u8 0) 1 Tryd.underlying22 hi0 hz0 hz1 hz2 rfl w.heap.size (by simp; omega) _ _ _ rfl (Happ.out.lit _ rfl) (some ⟨wr.heap.size, 0, none⟩) 1 1 [.int .u8 ((bs.length : Int) * 8 / 2 ^ (56 - 8 * j) % 256)] rfl (lit_rd _ _) (by simp [Value.oneCell']) (by unfold maxLen; omega) (by omega) ?_; intro v1 w2 happ1 hb1)
          refine ⟨⟨j + 1, by omega, by go_num, ?_, (HB.out.alloc hsz3 _).trans hb1⟩, ?_⟩
          · rw [Hlb.out] at happ1
            rw [show bs ++ 0x80 :: List.replicate z 0 ++ (List.range (j + 1)).map (lenByte bs.length) = (bs ++ 0x80 :: List.replicate z 0 ++ (List.range j).map (lenByte bs.length)) ++ [lenByte bs.length j] from by rw [List.range_succ]; simp, List.map_append]
            exact happ1
          · obtain ⟨A3, c3, rfl, _, _⟩ := happ1.rd
            simp only [slLen]
            omega
        · obtain rfl : j = 8 := by omega
          have HR := Lib.hid hRz
          have HB := Lib.hid hB
          clear hRz hB happ
          go_wp2_with fail
          go_ret
          exact ⟨Az', _, cz', rfl, hcz', HR.out, HB.out⟩
    · have HB := Lib.hid hB
      have Happ := Lib.hid happ
      have hsz3 := hB.size
      clear hB happ hRz
      go_wp2_with (at_builtin; refine wpList_app rfl (.tmp 15) (.tmp 16) 22 rfl 5 i0 (.int .u8 0) 1 Tryd.underlying22 hi0 hz0 hz1 hz2 rfl w.heap.size (by simp; omega) _ _ _ rfl (Happ.out.lit _ rfl) (some ⟨wr.heap.size, 0, none⟩) 1 1 [.int .u8 0] rfl (lit_rd _ _) (by simp [Value.oneCell']) (by unfold maxLen; omega) (by omega) ?_; intro v1 w2 happ1 hb1)
      refine ⟨⟨z + 1, by have := Hpd.out; omega, ?_, (HB.out.alloc hsz3 _).trans hb1⟩, ?_⟩
      · have e : bs ++ 0x80 :: List.replicate (z + 1) 0 = (bs ++ 0x80 :: List.replicate z 0) ++ [0] := by rw [List.replicate_succ']; simp
        rw [e, List.map_append]
        exact happ1
      · obtain ⟨A3, c3, rfl, _, _⟩ := happ1.rd
        simp only [slLen]
        have := Hpd.out
        omega
end

section
open Go.RowKit

theorem und54 : Tryd.prog.underlying 78 = some (.int .u32) := by kernel_rfl
theorem und74 : Tryd.prog.underlying 107 = some (.array 64 78) := by kernel_rfl
theorem und61 : Tryd.prog.underlying 102 = some (.array 8 78) := by kernel_rfl
theorem size74 (cs : Array Value) (h : cs.size = 64) : (Tryd.prog.info? 107).map (·.size) = some cs.size := by rw [h]; kernel_rfl
theorem size61 (cs : Array Value) (h : cs.size = 8) : (Tryd.prog.info? 102).map (·.size) = some cs.size := by rw [h]; kernel_rfl

set_option maxHeartbeats 400000 in
theorem RRor_any (x : UInt32) (n : Nat) (h0 : 0 < n) (hn : n < 32) (w : World) :
    Calls Tryd.prog 72 #[.int .u32 (x.toNat : Int), .int .i64 (n : Int)] w fun e w' => e = .returned (.int .u32 ((ror32 x n).toNat : Int)) ∧ ∃ k, w' = w.drewN k := by
  have hx := x.toNat_lt
  have hr := w_ror x n h0
  go_enter Tryd.func72, Tryd.ntmps72
  go_wp2
  go_quiet (fail)
  go_wp2
  go_ret
  exact ⟨rfl, _, rfl⟩

/-- Block B holds the words ws, and 0 behind them: 64 cells of type 74. -/
def WAr (W : World) (B : Nat) (ws : List UInt32) : Prop := Blk W B 107 (ws.map u32V ++ List.replicate (64 - ws.length) (u32V 0)).toArray
theorem WAr.set {W : World} {B : Nat} {ws : List UInt32} (h : WAr W B ws) (hl : ws.length < 64) (x : UInt32) : WAr (W.setCell ⟨B, ws.length, none⟩ (u32V x)) B (ws ++ [x]) := by
  unfold WAr Blk at *
  rw [heap_setCell_same W B ws.length _ 107 (u32V x) h]
  congr 2
  rw [List.setIfInBounds_toArray]
  congr 1
  rw [List.set_append, if_neg (by simp), List.length_map, Nat.sub_self, show 64 - ws.length = (64 - (ws.length + 1)) + 1 from by omega, List.replicate_succ, List.set_cons_zero, List.map_append, List.length_append]
  simp
theorem WAr.cell {W : World} {B : Nat} {ws : List UInt32} (h : WAr W B ws) {j : Nat} (hj : j < ws.length) : W.cell? ⟨B, j, none⟩ = some (.int .u32 ((ws.getD j 0).toNat : Int)) := by
  rw [Blk.cell h j]
  simp only [List.getElem?_toArray]
  rw [List.getElem?_append_left (by simpa using hj), List.getElem?_map, List.getD_eq_getElem?_getD, List.getElem?_eq_getElem hj]
  rfl
theorem WAr.old {W : World} {B : Nat} {ws : List UInt32} (h : WAr W B ws) (hl : ws.length < 64) : W.cell? ⟨B, ws.length, none⟩ = some (.int .u32 0) ∧ W.frozen? ⟨B, ws.length, none⟩ = false := by
  refine ⟨?_, Blk.frozen h _⟩
  rw [Blk.cell h]
  simp only [List.getElem?_toArray]
  rw [List.getElem?_append_right (by simp), List.length_map, Nat.sub_self, List.getElem?_replicate, if_pos (by omega)]
  rfl
theorem w_early (v1 : UInt32) : bits BinOp.xor IntKind.u32 (((ror32 v1 7).toNat ^^^ (ror32 v1 18).toNat : Nat) : Int) ((shr32 v1 3).toNat : Int) = ((early v1).toNat : Int) := by rw [← UInt32.toNat_xor, w_xor]; rfl
theorem w_late (v14 : UInt32) : bits BinOp.xor IntKind.u32 (((ror32 v14 17).toNat ^^^ (ror32 v14 19).toNat : Nat) : Int) ((shr32 v14 10).toNat : Int) = ((late v14).toNat : Int) := by rw [← UInt32.toNat_xor, w_xor]; rfl
def zeros64 : Array Value := (List.replicate 64 (Value.int .u32 0)).toArray
theorem built74 : Tryd.prog.built 107 [] = some zeros64 := by kernel_rfl
theorem zeros64_size : zeros64.size = 64 := rfl
theorem zeros64_one : zeros64.all (·.oneCell') = true := by kernel_rfl
theorem info74 : (Tryd.prog.info? 107).map (fun i => (i.zero, i.size, i.bytes)) = some (some (.agg zeros64), 64, 256) := by kernel_rfl
theorem wpList_build0 {P : Program} {ops : Array Oper} {rest : List Oper} {o : Oper} {a : Act} {w : World} {Q : Exit → Act → World → Prop} (hg : o.guard = none) (t : TypeId) (ho : o.op = .build t #[]) (Z : Array Value) (hZ : P.built t [] = some Z)
    (h : wpList P ops Q rest (a.put o.dst (.agg Z)) w) : wpList P ops Q (o :: rest) a w := by
  refine wpList_build hg t #[] ho (by simp [hZ]) ?_
  simpa [hZ] using h
/-- A new variable of the array type: its block is opaque. -/
theorem wpList_alloc0 {P : Program} {ops : Array Oper} {rest : List Oper} {o : Oper} {a : Act} {w : World} {Q : Exit → Act → World → Prop} (hg : o.guard = none) (t : TypeId) (ho : o.op = .alloc t) (Z : Array Value) (z : Value) (i : TypeInfo) (hi : P.info? t = some i) (hz : i.zero = some z) (hc : z.cells = Z)
    (h : wpList P ops Q rest (a.put o.dst (.pointer (some ⟨w.heap.size, 0, none⟩))) (w.alloc (.cells Z t))) : wpList P ops Q (o :: rest) a w := by
  subst hc
  refine wpList_plain hg fun K hK => ?_
  unfold Oper.wp execOp
  simp only [ho, Sem.run_bind, Instr.alloc, zeroValue, typeInfo, newVar, newRow, run_newObj_alloc, Sem.run_pure, Result.andThen_ok]
  simp [hi, hz]
  exact hK _ _ h
theorem w_sum4 (a b c d : UInt32) : ((a.toNat : Int) + (b.toNat : Int) + (c.toNat : Int) + (d.toNat : Int)) % 4294967296 = ((a + b + c + d).toNat : Int) := by
  simp only [UInt32.toNat_add]
  omega
def wordsV (ws : List UInt32) : Value := .agg (ws.map u32V).toArray

set_option maxRecDepth 100000 in
set_option maxHeartbeats 1500000 in
theorem RWords_any (A : Option Addr) (len cap : Nat) (bs : List UInt8) (w : World) (hr : Rd w 1 A len (bs.map byteV)) (hlen : 64 ≤ len) :
    Calls Tryd.prog 70 #[.slice A len cap] w fun e w' => e = .returned (wordsV (words bs 48)) ∧ Below w.heap.size w w' := by
  have hle := hr.le
  obtain ⟨i74, hi74, hz74, _, _⟩ := info_parts info74
  go_enter Tryd.func70, Tryd.ntmps70
  go_upto_region 1 with (refine wpList_alloc0 rfl 107 rfl zeros64 (.agg zeros64) i74 hi74 hz74 rfl ?_)
  obtain ⟨w1, hw1⟩ : ∃ w1, w1 = w.alloc (.cells zeros64 107) := ⟨_, rfl⟩
  have hB1 : Below w.heap.size w w1 := by rw [hw1]; exact (Below.refl _ _).alloc (Nat.le_refl _) _
  have hs1 : w1.heap.size = w.heap.size + 1 := by rw [hw1]; simp
  have hO1 : Blk w1 w.heap.size 107 zeros64 := by rw [hw1]; exact Blk.new _ _ _
  rw [← hw1]
  have hr1 := hr.below hB1
  have Hs1 := Lib.hid hs1
  have HB1 := Lib.hid hB1
  have HO1 := Lib.hid hO1
  have Hr1 := Lib.hid hr1
  clear hw1 hs1 hB1 hO1 hr hr1
  simp only [Act.put, List.setIfInBounds_toArray, List.set_cons_succ, List.set_cons_zero]
  go_wp2_with (first | (refine wpList_alloc0 rfl 107 rfl zeros64 (.agg zeros64) i74 hi74 hz74 rfl ?_) | (refine wpList_build0 rfl 107 rfl zeros64 built74 ?_) | (refine wpList_store_row rfl 107 (.tmp 3) (.tmp 8) rfl w1.heap.size _ rfl rfl 107 zeros64 (heap_alloc_new _ _) (size74 _ rfl) rfl zeros64_one ?_; simp only [Act.put]))
  have hW0 : WAr ((w1.alloc (.cells zeros64 107)).setRow w1.heap.size zeros64) w1.heap.size [] := setRow_heap _ _ _ _ _ _ (heap_alloc_new _ _)
  have hB0 : Below w1.heap.size w1 ((w1.alloc (.cells zeros64 107)).setRow w1.heap.size zeros64) := Below.setRow ((Below.refl _ _).alloc (Nat.le_refl _) _) (Nat.le_refl _) _
  generalize (w1.alloc (.cells zeros64 107)).setRow w1.heap.size zeros64 = w2 at *
  go_loopw [4] (fun t wr => ∃ k : Nat, k ≤ 16 ∧ t = .int .i64 k ∧ WAr wr w1.heap.size (words0 bs k) ∧ Below w1.heap.size w1 wr) (fun t _ => 16 - (intOf t).toNat)
  case atStart => exact ⟨0, Nat.zero_le _, rfl, hW0, hB0⟩
  case round =>
    obtain ⟨k, hk16, rfl, hW, hB⟩ := hrel
    clear hW0 hB0
    by_cases hlt : k < 16
    · have hlk := words0_length bs k
      have hrk := Hr1.out.below hB
      obtain ⟨b, off, x0, rfl, hx0, c0⟩ := hrk.byte_ (k := 4 * k) (by omega)
      obtain ⟨_, _, x1, hA1, hx1, c1⟩ := hrk.byte_ (k := 4 * k + 1) (by omega)
      cases hA1
      obtain ⟨_, _, x2, hA2, hx2, c2⟩ := hrk.byte_ (k := 4 * k + 2) (by omega)
      cases hA2
      obtain ⟨_, _, x3, hA3, hx3, c3⟩ := hrk.byte_ (k := 4 * k + 3) (by omega)
      cases hA3
      obtain ⟨o1, o2⟩ := hW.old (by omega)
      rw [hlk] at o1 o2
      have y0 := x0.toNat_lt
      have y1 := x1.toNat_lt
      have y2 := x2.toNat_lt
      have y3 := x3.toNat_lt
      have hbe : words0 bs (k + 1) = words0 bs k ++ [be32 x0 x1 x2 x3] := by
        rw [words0]
        simp only [List.getD_eq_getElem?_getD, hx0, hx1, hx2, hx3, Option.getD_some]
      have Hbe := Lib.hid hbe
      have HW := Lib.hid hW
      have HB := Lib.hid hB
      have Hlk := Lib.hid hlk
      clear hx0 hx1 hx2 hx3 hbe hrk hW hB hlk
      go_wp2
      go_region
      go_wp2
      rw [w_be32]
      have n1 := HW.out.set (by have := Hlk.out; omega) (be32 x0 x1 x2 x3)
      rw [Hlk.out, ← Hbe.out] at n1
      exact ⟨⟨k + 1, by omega, by go_num, n1, (HB.out.setCell (Nat.le_refl _) _).drew⟩, by simp [intOf]; omega⟩
    · obtain rfl : k = 16 := by omega
      have hW1 : WAr wr w1.heap.size (words bs 0) := hW
      have HW1 := Lib.hid hW1
      have HB2 := Lib.hid hB
      clear hW hB hW1
      go_wp2_with fail
      go_loopw [5, 6, 7] (fun t _ _ wr => ∃ k : Nat, k ≤ 48 ∧ t = .int .i64 (16 + (k : Int)) ∧ WAr wr w1.heap.size (words bs k) ∧ Below w1.heap.size w1 wr) (fun t _ _ _ => 64 - (intOf t).toNat)
      case atStart => exact ⟨0, Nat.zero_le _, rfl, HW1.out, HB2.out⟩
      case round =>
        obtain ⟨k, hk48, rfl, hW, hB⟩ := hrel
        have hlk := words_length bs k
        by_cases hlt : k < 48
        · obtain ⟨o1, o2⟩ := hW.old (by omega)
          rw [hlk] at o1 o2
          have d0 := hW.cell (j := k) (by omega)
          have d1 := hW.cell (j := 16 + k - 15) (by omega)
          have d9 := hW.cell (j := 16 + k - 7) (by omega)
          have d14 := hW.cell (j := 16 + k - 2) (by omega)
          have hnx : words bs (k + 1) = words bs k ++ [nextWord (words bs k) (16 + k)] := rfl
          unfold nextWord at hnx
          rw [show 16 + k - 16 = k from by omega] at hnx
          generalize (words bs k).getD k 0 = v0 at *
          generalize (words bs k).getD (16 + k - 15) 0 = v1 at *
          generalize (words bs k).getD (16 + k - 7) 0 = v9 at *
          generalize (words bs k).getD (16 + k - 2) 0 = v14 at *
          have Hnx := Lib.hid hnx
          have HW := Lib.hid hW
          have HB := Lib.hid hB
          have Hlk := Lib.hid hlk
          clear hnx hW hB hlk
          have wx := w_xor
          have wf : ((v1.toNat : Int)) / 8 = ((shr32 v1 3).toNat : Int) := by rw [w_shr]; rfl
          have hC1 : ∀ a, Calls Tryd.prog 72 #[.int .u32 (v1.toNat : Int), .int .i64 7] (wr.drewN a) fun e w'' => e = .returned (.int .u32 ((ror32 v1 7).toNat : Int)) ∧ ∃ m, w'' = wr.drewN m := fun a => Calls.quiet_of (RRor_any v1 7 (by omega) (by omega) _)
          have hC2 : ∀ a, Calls Tryd.prog 72 #[.int .u32 (v1.toNat : Int), .int .i64 18] (wr.drewN a) fun e w'' => e = .returned (.int .u32 ((ror32 v1 18).toNat : Int)) ∧ ∃ m, w'' = wr.drewN m := fun a => Calls.quiet_of (RRor_any v1 18 (by omega) (by omega) _)
          go_wp2_with fail
          go_quiet (first | with_reducible exact hC1 _ | with_reducible exact hC2 _)
          rw [w_early]
          clear hC1 hC2 wf
          generalize early v1 = e1 at *
          obtain ⟨wn, hwn⟩ : ∃ wn, wn = wr.drewN nq := ⟨_, rfl⟩
          rw [← hwn]
          replace d0 : wn.cell? ⟨w1.heap.size, k, none⟩ = some (.int .u32 (v0.toNat : Int)) := by rw [hwn]; exact d0
          replace d9 : wn.cell? ⟨w1.heap.size, 16 + k - 7, none⟩ = some (.int .u32 (v9.toNat : Int)) := by rw [hwn]; exact d9
          replace d14 : wn.cell? ⟨w1.heap.size, 16 + k - 2, none⟩ = some (.int .u32 (v14.toNat : Int)) := by rw [hwn]; exact d14
          replace o1 : wn.cell? ⟨w1.heap.size, 16 + k, none⟩ = some (.int .u32 0) := by rw [hwn]; exact o1
          replace o2 : wn.frozen? ⟨w1.heap.size, 16 + k, none⟩ = false := by rw [hwn]; exact o2
          replace HW : RowKit.Hid (WAr wn w1.heap.size (words bs k)) := by rw [hwn]; exact HW
          replace HB : RowKit.Hid (Below w1.heap.size w1 wn) := by rw [hwn]; exact Lib.hid (below_drewN HB.out nq)
          clear hwn d1
          have wg : ((v14.toNat : Int)) / 1024 = ((shr32 v14 10).toNat : Int) := by rw [w_shr]; rfl
          have hC3 : ∀ a, Calls Tryd.prog 72 #[.int .u32 (v14.toNat : Int), .int .i64 17] (wn.drewN a) fun e w'' => e = .returned (.int .u32 ((ror32 v14 17).toNat : Int)) ∧ ∃ m, w'' = wn.drewN m := fun a => Calls.quiet_of (RRor_any v14 17 (by omega) (by omega) _)
          have hC4 : ∀ a, Calls Tryd.prog 72 #[.int .u32 (v14.toNat : Int), .int .i64 19] (wn.drewN a) fun e w'' => e = .returned (.int .u32 ((ror32 v14 19).toNat : Int)) ∧ ∃ m, w'' = wn.drewN m := fun a => Calls.quiet_of (RRor_any v14 19 (by omega) (by omega) _)
          go_wp2_with fail
          go_quiet (first | with_reducible exact hC3 _ | with_reducible exact hC4 _)
          rw [w_late]
          clear hC3 hC4 wg wx
          generalize late v14 = e14 at *
          obtain ⟨wo, hwo⟩ : ∃ wo, wo = wn.drewN nq := ⟨_, rfl⟩
          rw [← hwo]
          replace d0 : wo.cell? ⟨w1.heap.size, k, none⟩ = some (.int .u32 (v0.toNat : Int)) := by rw [hwo]; exact d0
          replace d9 : wo.cell? ⟨w1.heap.size, 16 + k - 7, none⟩ = some (.int .u32 (v9.toNat : Int)) := by rw [hwo]; exact d9
          replace o1 : wo.cell? ⟨w1.heap.size, 16 + k, none⟩ = some (.int .u32 0) := by rw [hwo]; exact o1
          replace o2 : wo.frozen? ⟨w1.heap.size, 16 + k, none⟩ = false := by rw [hwo]; exact o2
          replace HW : RowKit.Hid (WAr wo w1.heap.size (words bs k)) := by rw [hwo]; exact HW
          replace HB : RowKit.Hid (Below w1.heap.size w1 wo) := by rw [hwo]; exact Lib.hid (below_drewN HB.out nq)
          clear hwo d14
          go_wp2_with fail
          go_region
          go_wp2
          rw [w_sum4]
          have n1 := HW.out.set (by have := Hlk.out; omega) (v0 + e1 + v9 + e14)
          rw [Hlk.out, ← Hnx.out] at n1
          exact ⟨⟨k + 1, by omega, by go_num, n1, (HB.out.setCell (Nat.le_refl _) _).drew⟩, by simp [intOf]; omega⟩
        · obtain rfl : k = 48 := by omega
          have hO2 : Blk wr w.heap.size 107 zeros64 := HO1.out.below hB (by have := Hs1.out; omega)
          have hBf : Below w.heap.size w wr := HB1.out.trans (hB.mono (by have := Hs1.out; omega))
          have hWf : Blk wr w1.heap.size 107 ((words bs 48).map u32V).toArray := by
            have h := hW
            unfold WAr at h
            rw [hlk, show 64 - (16 + 48) = 0 from rfl, List.replicate_zero, List.append_nil] at h
            exact h
          have hone : ((words bs 48).map u32V).toArray.all (·.oneCell') = true := all_oneCell_toArray (fun v hv => by obtain ⟨x, _, rfl⟩ := List.mem_map.1 hv; rfl)
          have hsz : ((words bs 48).map u32V).toArray.size = 64 := by simp [hlk]
          have hw : wordsV (words bs 48) = .agg ((words bs 48).map u32V).toArray := rfl
          have Hw := Lib.hid hw
          have HO2 := Lib.hid hO2
          have HBf := Lib.hid hBf
          have HWf := Lib.hid hWf
          clear hW hB hlk hO2 hBf hWf hw
          generalize ((words bs 48).map u32V).toArray = WZ at *
          go_wp2_with (first | (refine wpList_load_row rfl 107 (.tmp 3) rfl w1.heap.size rfl 107 _ (0, 0) _ HWf.out und74 rfl (size74 _ hsz) ?_) | (refine wpList_store_row rfl 107 (.tmp 2) (.tmp 101) rfl w.heap.size _ rfl rfl 107 _ HO2.out (size74 _ hsz) (by rw [hsz]; rfl) hone ?_))
          refine bodyPost_ret (results_cell_row rfl _ _ w.heap.size 107 _ (0, 0) _ rfl (setRow_heap _ _ _ _ _ _ HO2.out) und74 rfl (size74 _ hsz)) rfl ⟨by rw [Hw.out], Below.setRow HBf.out (Nat.le_refl _) _⟩
end

end Go.Proofs.YtfdhiilhjfbehaaDoor
