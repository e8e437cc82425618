/- Shared laws out of chapters 15 and 16 (printed by need.py). -/
import Derived.Test.YteofgkdpknaapaaGW
import Derived.Test.YteofgkdpknaapaaFlowC
import Derived.Test.YteofgkdpknaapaaFlowD
import Derived.Test.YteofgkdpknaapaaFlowI
import Derived.Test.YteofgkdpknaapaaFlowT
import Derived.Laws.BytesArg
import Derived.Laws.BitsAllLaws
namespace Go.Proofs.Yteofgkdpknaapaa
open Go.RowKit Go.Sort

theorem info5 : (Try.prog.info? 5).map (fun i => (i.zero, i.size, i.bytes)) = some (some (.int .u8 0), 1, 1) := by kernel_rfl
theorem oneB (bs : List UInt8) : ∀ u ∈ bs.map byteV, u.oneCell' = true := by
  intro u hu
  obtain ⟨b, _, rfl⟩ := List.mem_map.1 hu
  rfl
theorem size22' : Try.prog.cellsOf 5 = 1 := by kernel_rfl
theorem und32 : Try.prog.underlying 93 = some (.array 32 5) := by kernel_rfl
theorem size32 (cs : Array Value) (h : cs.size = 32) : (Try.prog.info? 93).map (·.size) = some cs.size := by rw [h]; kernel_rfl
def zero32 : Array Value := (List.replicate 32 (Value.int .u8 0)).toArray
theorem zero32_size : zero32.size = 32 := rfl
/-- A hash. -/
def Sum32 : Type := {l : List UInt8 // l.length = 32}
def sumC (h : Sum32) : List Value := h.1.map byteV
theorem sumC_len (h : Sum32) : (sumC h).length = 32 := by simp [sumC, h.2]
theorem Lst.len {w : World} {A : Option Addr} {n : Nat} {cs : List (List UInt8)} (h : Lst w A n cs) : cs.length = n := by obtain ⟨vs, h1, h2, h3⟩ := h; exact h2
theorem info32 : (Try.prog.info? 93).map (fun i => (i.zero, i.size, i.bytes)) = some (some (.agg zero32), 32, 32) := by kernel_rfl
def z32 : Sum32 := ⟨List.replicate 32 0, rfl⟩
/-- A range of a slice of hashes. -/
theorem Rd.range32 {w : World} {b off n k : Nat} {xs : List Sum32} (h : Rd w 32 (some ⟨b, off, none⟩) n (xs.flatMap sumC)) (hk : k < n) : w.rangeAt b (off + k * 32) (sumC (xs.getD k z32)) := by
  obtain ⟨b', off', x, e, hx, hc⟩ := h.flat_ sumC_len (by omega) hk
  cases e
  intro j v hv
  rw [List.getD_eq_getElem?_getD, hx] at hv
  rw [Nat.add_assoc]
  exact hc j v hv
/-- A slice of one element of several cells, as one operation. -/
theorem step_build1 {P : Program} {ops : Array Oper} {Q : Exit → Act → World → Prop} {o : Oper} {a : Act} {w : World} {K : Act → World → Prop} {E : Prop} (hg : o.guard = none) (t e : TypeId) (x : Operand) (ho : o.op = .buildSlice t 1 #[(0, x)])
    (cells : Array Value) (ie : TypeInfo) (z : Value) (s : Nat) (hu : P.underlying t = some (.slice e)) (hie : P.info? e = some ie) (hz : ie.zero = some z) (hs : ie.size = s) (hpos : 0 < s) (hsm : s ≤ 2 ^ 24)
    (hx : a.eval x = .agg cells) (hc : cells.size = s)
    (h : K (a.put o.dst (.slice (some ⟨w.heap.size, 0, none⟩) 1 1)) (w.alloc (.cells cells e))) : if Region.wanted o (yielded ops a.tmps) = true then Oper.wp P o a w K Q else E := by
  have hw : Region.wanted o (yielded ops a.tmps) = true := by simp [Region.wanted, hg]
  rw [if_pos hw]
  subst hs
  refine wp_buildSlice t e 1 _ ho cells ie z hu hie hz (by omega) (by omega) ?_ h
  have := Great.fill_whole hpos [.agg cells] ((Array.range (1 * ie.size)).map (z.cells[· % z.cells.size]!)) (by simp [Value.cells, hc]) (by simp)
  simpa [hx, Value.cells] using this
instance : DecidableEq Sum32 := fun a b => if h : a.1 = b.1 then isTrue (Subtype.ext h) else isFalse (fun e => h (by rw [e]))
theorem sumC_ints (x : Sum32) : sumC x = (x.1.map fun b => (b.toNat : Int)).map (Value.int .u8) := by
  unfold sumC byteV
  rw [List.map_map]
  rfl
theorem ints_inj (x y : Sum32) : (x.1.map fun b => (b.toNat : Int)) = (y.1.map fun b => (b.toNat : Int)) ↔ x = y := by
  constructor
  · intro h
    refine Subtype.ext ?_
    have hinj : ∀ (a b : List UInt8), a.map (fun b => (b.toNat : Int)) = b.map (fun b => (b.toNat : Int)) → a = b := by
      intro a
      induction a with
      | nil => intro b h; cases b with
        | nil => rfl
        | cons c d => simp at h
      | cons c d ih => intro b h; cases b with
        | nil => simp at h
        | cons c' d' =>
          simp only [List.map_cons, List.cons.injEq] at h
          obtain ⟨h1, h2⟩ := h
          have e1 : c = c' := UInt8.toNat_inj.1 (by omega)
          rw [ih d' h2, e1]
    exact hinj _ _ h
  · rintro rfl; rfl
theorem run_neq_sum (x y : Sum32) (W : World) : (binOp .neq 93 (.agg (sumC x).toArray) (.agg (sumC y).toArray)).run Try.prog W = .ok (.bool (!decide (x = y))) W := by
  rw [sumC_ints, sumC_ints, run_neq_arr W 93 5 32 .u8 und32 (by kernel_rfl) (by kernel_rfl) _ _ (by rw [List.length_map]; exact x.2) (by rw [List.length_map]; exact y.2)]
  rw [show decide ((x.1.map fun b => (b.toNat : Int)) = (y.1.map fun b => (b.toNat : Int))) = decide (x = y) from decide_eq_decide.2 (ints_inj x y)]
theorem elem22 : Try.prog.elem 26 = 5 := by kernel_rfl
theorem und22 : Try.prog.underlying 26 = some (.slice (Try.prog.elem 26)) := by rw [elem22]; exact Try.underlying26
theorem built32z : Try.prog.built 93 [] = some (sumC z32).toArray := by kernel_rfl
theorem AppZ.own_ne {w : World} {base e t sz n g : Nat} {v : Value} {xs : List Value} {cs : Array Value} (h : AppZ w base e sz v n xs) (hn : 0 < n) (hg : Blk w g t cs) (hne : t ≠ e) : some g ≠ v.ownBlock := by
  intro e'
  obtain ⟨A, c, rfl, _, _⟩ := h.rd
  cases A with
  | none => cases e'
  | some a =>
    obtain ⟨b, o, s⟩ := a
    simp only [Value.ownBlock, Option.some.injEq] at e'
    subst e'
    rcases h with ⟨h0, _⟩ | ⟨_, ⟨hv, _⟩ | ⟨g', cap, cur, hv, hb, hgg, _⟩⟩
    · omega
    · cases hv
    · cases hv
      exact (Blk.ne hg hgg hne) rfl
theorem AppZ.keptIn {w w' : World} {base e sz n g t : Nat} {v : Value} {xs : List Value} {old : Array Value} (h : AppZ w base e sz v n xs) (hg : Blk w g t old) (hne : t ≠ e) (hk : KeptIn (fun k => k ≠ g) w w') : AppZ w' base e sz v n xs := by
  have hgr := hk.grownBut
  rcases h with ⟨h1, h2, a, h3, h4, h5⟩ | h
  · exact .inl ⟨h1, h2, a, h3, h4, Nat.lt_of_lt_of_le h5 hgr.size⟩
  · refine .inr (h.kept hgr ?_)
    rcases h.2 with ⟨rfl, _⟩ | ⟨g', cap, cur, rfl, _, hgg, _⟩
    · exact .inl rfl
    · exact .inr fun e' => by
        have : g' = g := by simpa [Value.ownBlock] using e'
        subst this
        exact (Blk.ne hg hgg hne) rfl
theorem AppZ.grown {w w' : World} {base e sz n t : Nat} {v : Value} {xs : List Value} {row : Option Nat} (h : AppZ w base e sz v n xs) (hg : w.grownBy w' row) (hrow : ∀ g, row = some g → ∃ cur, Blk w g t cur) (hne : t ≠ e) : AppZ w' base e sz v n xs := by
  rcases h with ⟨h1, h2, a, h3, h4, h5⟩ | h
  · exact .inl ⟨h1, h2, a, h3, h4, Nat.lt_of_lt_of_le h5 hg.size⟩
  · refine .inr (h.kept hg ?_)
    rcases h.2 with ⟨rfl, _⟩ | ⟨g', cap, cur, rfl, _, hgg, _⟩
    · exact .inl rfl
    · exact .inr fun e' => by
        obtain ⟨cur', hc⟩ := hrow g' (by simpa [Value.ownBlock] using e'.symm)
        exact (hc.ne hgg hne) rfl
/-- A signature, a secret. -/
structure Sg where
  (i : Int) (ch pa : List Sum32)
def formedS (s : Sg) : Bool := decide (s.ch.length = 67 ∧ s.pa.length ≤ 4 ∧ 0 ≤ s.i ∧ s.i < 2 ^ s.pa.length)
def sg0 : Sg := ⟨0, [], []⟩
def sgV (i : Int) (A : Option Addr) (n c : Nat) (B : Option Addr) (m d : Nat) : List Value := [.int .i64 i, .slice A n c, .slice B m d]
theorem sgV_len (i : Int) (A : Option Addr) (n c : Nat) (B : Option Addr) (m d : Nat) : (sgV i A n c B m d).length = 3 := rfl
theorem sg_one (i : Int) (A : Option Addr) (n c : Nat) (B : Option Addr) (m d : Nat) : (sgV i A n c B m d).toArray.all (·.oneCell') = true := all_oneCell_toArray fun v hv => by
  simp only [sgV, List.mem_cons, List.not_mem_nil, or_false] at hv
  rcases hv with rfl | rfl | rfl <;> rfl
theorem info37 : (Try.prog.info? 95).map (fun i => (i.zero, i.size, i.bytes)) = some (some (.agg (sgV 0 none 0 0 none 0 0).toArray), 3, 56) := by kernel_rfl
theorem size37 (cs : Array Value) (h : cs.size = 3) : (Try.prog.info? 95).map (·.size) = some cs.size := by rw [h]; kernel_rfl
theorem und37 : ∃ d, Try.prog.underlying 95 = some d ∧ d.isRow = true := by
  obtain ⟨d, h1, h2⟩ := Option.map_eq_some_iff.1 (show (Try.prog.underlying 95).map (·.isRow) = some true by kernel_rfl)
  exact ⟨d, h1, h2⟩
theorem pow5n {h : Nat} (h4 : h ≤ 4) : h = 0 ∨ h = 1 ∨ h = 2 ∨ h = 3 ∨ h = 4 := by omega
def formB (i : Int) (n m : Nat) : Bool := decide (n = 67 ∧ m ≤ 4 ∧ 0 ≤ i ∧ i < 2 ^ m)
set_option maxRecDepth 100000 in
set_option maxHeartbeats 2000000 in
theorem formed_any (i : Int) (A : Option Addr) (n c : Nat) (B : Option Addr) (m d : Nat) (w : World) : Calls Try.prog 65 #[.agg (sgV i A n c B m d).toArray] w fun e w' => e = .returned (.bool (formB i n m)) ∧ Below w.heap.size w w' := by
  obtain ⟨R, hR⟩ : ∃ R, R = formB i n m := ⟨_, rfl⟩
  rw [← hR]
  have hR' : R = decide (n = 67 ∧ m ≤ 4 ∧ 0 ≤ i ∧ i < 2 ^ m) := hR
  clear hR
  go_enter Try.func65, Try.ntmps65
  go_upto_region 1 with fail
  obtain ⟨w1, hw1⟩ : ∃ v, v = w.alloc (.cells (sgV i A n c B m d).toArray 95) := ⟨_, rfl⟩
  have hB : Below w.heap.size w w1 := by rw [hw1]; exact (Below.refl _ _).alloc (Nat.le_refl _) _
  have hC : Blk w1 w.heap.size 95 (sgV i A n c B m d).toArray := by rw [hw1]; exact Blk.new _ _ _
  rw [← hw1]
  clear hw1
  have c0 : w1.cell? ⟨w.heap.size, 0, none⟩ = some (.int .i64 i) := by rw [hC.cell]; rfl
  have c1 : w1.cell? ⟨w.heap.size, 1, none⟩ = some (.slice A n c) := by rw [hC.cell]; rfl
  have c2 : w1.cell? ⟨w.heap.size, 2, none⟩ = some (.slice B m d) := by rw [hC.cell]; rfl
  clear hC
  have HB := Lib.hid hB
  have HR := Lib.hid hR'
  clear hB hR'
  by_cases h0 : n = 67
  rotate_left
  · have d0 : ((n : Int) == 67) = false := by rw [beq_eq_false_iff_ne]; omega
    have d1 : (n == 67) = false := by rw [beq_eq_false_iff_ne]; exact h0
    have Hr := Lib.hid (show R = false by rw [HR.out]; exact decide_eq_false (fun x => h0 x.1))
    go_quiet (fail)
    go_wp2_with fail
    go_ret
    exact ⟨by rw [Hr.out]; rfl, below_drewN HB.out _⟩
  subst h0
  by_cases h4 : m ≤ 4
  rotate_left
  · have d1 : decide ((m : Int) ≤ (4 : Int)) = false := decide_eq_false (by omega)
    have d2 : decide (m ≤ 4) = false := decide_eq_false h4
    have Hr := Lib.hid (show R = false by rw [HR.out]; exact decide_eq_false (fun x => h4 x.2.1))
    go_quiet (fail)
    go_wp2_with fail
    go_ret
    exact ⟨by rw [Hr.out]; rfl, below_drewN HB.out _⟩
  have d1 : decide ((m : Int) ≤ (4 : Int)) = true := decide_eq_true (by omega)
  by_cases n0 : 0 ≤ i
  rotate_left
  · have d2 : decide ((0 : Int) ≤ i) = false := decide_eq_false n0
    have Hr := Lib.hid (show R = false by rw [HR.out]; exact decide_eq_false (fun x => n0 x.2.2.1))
    go_quiet (fail)
    go_wp2_with fail
    go_ret
    exact ⟨by rw [Hr.out]; rfl, below_drewN HB.out _⟩
  have d2 : decide ((0 : Int) ≤ i) = true := decide_eq_true n0
  have Hr := Lib.hid (show R = decide (i < 2 ^ m) by rw [HR.out]; simp [h4, n0])
  clear HR
  rcases pow5n h4 with rfl | rfl | rfl | rfl | rfl <;>
  · clear h4 n0 d1
    go_quiet (fail)
    go_wp2_with fail
    go_ret
    exact ⟨by rw [Hr.out]; rfl, below_drewN HB.out _⟩
set_option maxRecDepth 100000 in
set_option maxHeartbeats 2000000 in
theorem RFormed_any (i : Int) (A : Option Addr) (n c : Nat) (B : Option Addr) (m d : Nat) (w : World) : Calls Try.prog 60 #[.agg (sgV i A n c B m d).toArray] w fun e w' => e = .returned (.bool (formB i n m)) ∧ Below w.heap.size w w' := by
  obtain ⟨R, hR⟩ : ∃ R, R = formB i n m := ⟨_, rfl⟩
  rw [← hR]
  have hR' : R = decide (n = 67 ∧ m ≤ 4 ∧ 0 ≤ i ∧ i < 2 ^ m) := hR
  clear hR
  go_enter Try.func60, Try.ntmps60
  go_upto_region 1 with fail
  obtain ⟨w1, hw1⟩ : ∃ v, v = w.alloc (.cells (sgV i A n c B m d).toArray 95) := ⟨_, rfl⟩
  have hB : Below w.heap.size w w1 := by rw [hw1]; exact (Below.refl _ _).alloc (Nat.le_refl _) _
  have hC : Blk w1 w.heap.size 95 (sgV i A n c B m d).toArray := by rw [hw1]; exact Blk.new _ _ _
  rw [← hw1]
  clear hw1
  have c0 : w1.cell? ⟨w.heap.size, 0, none⟩ = some (.int .i64 i) := by rw [hC.cell]; rfl
  have c1 : w1.cell? ⟨w.heap.size, 1, none⟩ = some (.slice A n c) := by rw [hC.cell]; rfl
  have c2 : w1.cell? ⟨w.heap.size, 2, none⟩ = some (.slice B m d) := by rw [hC.cell]; rfl
  clear hC
  have HB := Lib.hid hB
  have HR := Lib.hid hR'
  clear hB hR'
  by_cases h0 : n = 67
  rotate_left
  · have d0 : ((n : Int) == 67) = false := by rw [beq_eq_false_iff_ne]; omega
    have d1 : (n == 67) = false := by rw [beq_eq_false_iff_ne]; exact h0
    have Hr := Lib.hid (show R = false by rw [HR.out]; exact decide_eq_false (fun x => h0 x.1))
    go_quiet (fail)
    go_wp2_with fail
    go_ret
    exact ⟨by rw [Hr.out]; rfl, below_drewN HB.out _⟩
  subst h0
  by_cases h4 : m ≤ 4
  rotate_left
  · have d1 : decide ((m : Int) ≤ (4 : Int)) = false := decide_eq_false (by omega)
    have d2 : decide (m ≤ 4) = false := decide_eq_false h4
    have Hr := Lib.hid (show R = false by rw [HR.out]; exact decide_eq_false (fun x => h4 x.2.1))
    go_quiet (fail)
    go_wp2_with fail
    go_ret
    exact ⟨by rw [Hr.out]; rfl, below_drewN HB.out _⟩
  have d1 : decide ((m : Int) ≤ (4 : Int)) = true := decide_eq_true (by omega)
  by_cases n0 : 0 ≤ i
  rotate_left
  · have d2 : decide ((0 : Int) ≤ i) = false := decide_eq_false n0
    have Hr := Lib.hid (show R = false by rw [HR.out]; exact decide_eq_false (fun x => n0 x.2.2.1))
    go_quiet (fail)
    go_wp2_with fail
    go_ret
    exact ⟨by rw [Hr.out]; rfl, below_drewN HB.out _⟩
  have d2 : decide ((0 : Int) ≤ i) = true := decide_eq_true n0
  have Hr := Lib.hid (show R = decide (i < 2 ^ m) by rw [HR.out]; simp [h4, n0])
  clear HR
  rcases pow5n h4 with rfl | rfl | rfl | rfl | rfl <;>
  · clear h4 n0 d1
    go_quiet (fail)
    go_wp2_with fail
    go_ret
    exact ⟨by rw [Hr.out]; rfl, below_drewN HB.out _⟩
theorem sum_size (x : Sum32) : (sumC x).toArray.size = 32 := by rw [List.size_toArray, sumC_len]
theorem TRd.keptIn {S : Nat → Prop} {w w' : World} {e : TypeId} {sz n : Nat} {A : Option Addr} {xs : List Value} (h : TRd w e sz A n xs) (hk : KeptIn S w w') (hS : ∀ b cur, Blk w b e cur → S b) : TRd w' e sz A n xs :=
  ⟨h.1.keptIn hk (fun b off hn eA => by obtain ⟨cur, hc⟩ := h.2 hn b off eA; exact hS b cur hc), fun hn b off eA => by obtain ⟨cur, hc⟩ := h.2 hn b off eA; exact ⟨cur, hc.keptIn hk (hS b cur hc)⟩⟩
theorem Ins.keptIn {S : Nat → Prop} {w w' : World} {vs : List Sl} {cs : List (List UInt8)} (h : Ins w vs cs) (hk : KeptIn S w w') (hS : ∀ b cur, Blk w b 5 cur → S b) : Ins w' vs cs := ⟨h.1, fun k v c hv hc => ⟨(h.2 k v c hv hc).1.keptIn hk hS, (h.2 k v c hv hc).2⟩⟩
theorem built37z : Try.prog.built 95 [] = some (sgV 0 none 0 0 none 0 0).toArray := by kernel_rfl
theorem built37i (i : Int) : Try.prog.built 95 [(0, .int .i64 i)] = some (sgV i none 0 0 none 0 0).toArray := by kernel_rfl
theorem val_build1 {P : Program} {Q : Exit → Act → World → Prop} {o : Oper} {a : Act} {W : World} {R : Value → World → Prop} (hg : o.guard = none) (t e : TypeId) (x : Operand) (ho : o.op = .buildSlice t 1 #[(0, x)])
    (cells : Array Value) (ie : TypeInfo) (z : Value) (s : Nat) (hu : P.underlying t = some (.slice e)) (hie : P.info? e = some ie) (hz : ie.zero = some z) (hs : ie.size = s) (hpos : 0 < s) (hsm : s ≤ 2 ^ 24)
    (hx : a.eval x = .agg cells) (hc : cells.size = s) (h : R (.slice (some ⟨W.heap.size, 0, none⟩) 1 1) (W.alloc (.cells cells e))) : Val P Q o a W (fun v W' => Below W.heap.size W W' ∧ R v W') := fun K hK => by
  have hgen := step_build1 (ops := #[]) (E := True) (K := K) (Q := Q) hg t e x ho cells ie z s hu hie hz hs hpos hsm hx hc (hK _ _ ⟨(Below.refl _ _).alloc (Nat.le_refl _) _, h⟩)
  rwa [if_pos (by simp [Region.wanted, hg])] at hgen
def spLit (T : TypeId) (cs : List Value) : Spec := ⟨fun v W => ∃ B, v = .slice (some ⟨B, 0, none⟩) 1 1 ∧ Blk W B T cs.toArray, fun _ _ _ ⟨B, h1, h2⟩ hb => ⟨B, h1, h2.below hb h2.lt⟩⟩
theorem rd32_one {W : World} {B T : Nat} {x : Sum32} (h : Blk W B T (sumC x).toArray) : Rd W 32 (some ⟨B, 0, none⟩) 1 (sumC x) := by
  have := h.rd (by rw [sumC_len]; omega)
  rw [sumC_len] at this
  exact ⟨by rw [sumC_len], by omega, fun h0 => by
    obtain ⟨b, o, e, hc⟩ := this.2.2 (by omega)
    exact ⟨b, o, e, hc⟩⟩
theorem trd_nilS (w : World) : TRd w 93 32 none 0 (([] : List Sum32).flatMap sumC) := ⟨⟨rfl, Nat.zero_le _, fun h => absurd h (by omega)⟩, fun h => absurd h (by omega)⟩
theorem rd_take {w : World} {A : Option Addr} {n m : Nat} {bs : List UInt8} (h : Rd w 1 A n (bs.map byteV)) (hm : m ≤ n) : Rd w 1 A m ((bs.take m).map byteV) := by
  have hl := h.len1
  refine ⟨by rw [List.length_map, List.length_take]; omega, by have := h.2.1; omega, fun h0 => ?_⟩
  obtain ⟨b, off, e, hc⟩ := h.2.2 (by omega)
  refine ⟨b, off, e, fun j u hu => hc j u ?_⟩
  rw [List.map_take, List.getElem?_take] at hu
  split at hu
  · exact hu
  · cases hu
set_option maxHeartbeats 1000000 in
theorem Limited_any (A : Option Addr) (len cap K : Nat) (bs : List UInt8) (w : World) (hr : Rd w 1 A len (bs.map byteV)) (hlc : len ≤ cap) (hK : K ≤ 100000) :
    Calls Try.prog 23 #[.slice A len cap, .int .i64 (K : Int)] w fun e w' => (∃ len' : Nat, e = .returned (.slice A len' cap) ∧ len' ≤ cap ∧ len' ≤ K ∧ Rd w 1 A len' ((bs.take K).map byteV)) ∧ w' = w := by
  have hl := hr.len1
  by_cases h : K < len
  · have d0 : decide ((len : Int) > (K : Int)) = true := decide_eq_true (by omega)
    have d1 : decide ((K : Int) < (len : Int)) = true := decide_eq_true (by omega)
    have HT := Lib.hid (rd_take hr (m := K) (by omega))
    go_enter Try.func23, Try.ntmps23
    clear hr hl
    go_wp2
    go_ret
    exact ⟨⟨K, rfl, by omega, by omega, HT.out⟩, rfl⟩
  · have d0 : decide ((len : Int) > (K : Int)) = false := decide_eq_false (by omega)
    have d1 : decide ((K : Int) < (len : Int)) = false := decide_eq_false (by omega)
    have HT := Lib.hid hr
    have Hl := Lib.hid (show bs.take K = bs from List.take_of_length_le (by omega))
    go_enter Try.func23, Try.ntmps23
    clear hr hl
    go_wp2
    go_ret
    exact ⟨⟨len, rfl, by omega, by omega, by rw [Hl.out]; exact HT.out⟩, rfl⟩
theorem take_eq_succ {xs ys : List Sum32} {k : Nat} (h : xs.take k = ys.take k) {x y : Sum32} (hx : xs[k]? = some x) (hy : ys[k]? = some y) (e : x = y) : xs.take (k + 1) = ys.take (k + 1) := by
  rw [List.take_add_one, List.take_add_one, h, hx, hy, e]
set_option maxRecDepth 100000 in
set_option maxHeartbeats 1000000 in
theorem SameSums_any (A B : Option Addr) (n m c d : Nat) (xs ys : List Sum32) (w : World) (hx : Rd w 32 A n (xs.flatMap sumC)) (hy : Rd w 32 B m (ys.flatMap sumC)) (hn : n ≤ 1000) (hm : m ≤ 1000) :
    Calls Try.prog 34 #[.slice A n c, .slice B m d] w fun e w' => e = .returned (.bool (decide (xs = ys))) ∧ Below w.heap.size w w' := by
  have hxl := hx.lenf sumC_len (by omega)
  have hyl := hy.lenf sumC_len (by omega)
  obtain ⟨R, hR⟩ : ∃ R, R = decide (xs = ys) := ⟨_, rfl⟩
  rw [← hR]
  have HR := Lib.hid hR
  clear hR
  go_enter Try.func34, Try.ntmps34
  by_cases hnm : n = m
  rotate_left
  · have d0 : ((n : Int) == (m : Int)) = false := by rw [beq_eq_false_iff_ne]; omega
    have Hr := Lib.hid (show R = false by rw [HR.out]; exact decide_eq_false (fun e => hnm (by rw [← hxl, ← hyl, e])))
    clear hx hy hxl hyl
    go_wp2_with fail
    go_ret
    exact ⟨by rw [Hr.out]; rfl, Below.refl _ _⟩
  subst hnm
  have d0 : ((n : Int) == (n : Int)) = true := by rw [beq_iff_eq]
  have HXs := Lib.hid hx
  have HYs := Lib.hid hy
  have Hxl := Lib.hid hxl
  have Hyl := Lib.hid hyl
  clear hx hy hxl hyl
  go_wp2_with fail
  go_loopw [5] (fun v5 wr => ∃ k : Nat, v5 = .int .i64 (k : Int) ∧ k ≤ n ∧ xs.take k = ys.take k ∧ Below w.heap.size w wr) (fun v5 _ => n - (intOf v5).toNat)
  case atStart => exact ⟨0, rfl, by omega, rfl, Below.refl _ _⟩
  case round =>
    obtain ⟨k, rfl, hk, htk, hB⟩ := hrel
    have Htk := Lib.hid htk
    have HB := Lib.hid hB
    clear htk hB
    by_cases hlt : k < n
    · have d1 : decide ((k : Int) < (n : Int)) = true := decide_eq_true (by omega)
      have hkn : (k : Int) < (n : Int) := by omega
      have hk0 : (0 : Int) ≤ (k : Int) := by omega
      obtain ⟨ab, ao, rfl, _⟩ := HXs.out.2.2 (by omega)
      obtain ⟨bb, bo, rfl, _⟩ := HYs.out.2.2 (by omega)
      obtain ⟨x, hx⟩ : ∃ x, xs[k]? = some x := ⟨_, List.getElem?_eq_getElem (by rw [Hxl.out]; exact hlt)⟩
      obtain ⟨y, hy⟩ : ∃ y, ys[k]? = some y := ⟨_, List.getElem?_eq_getElem (by rw [Hyl.out]; exact hlt)⟩
      have Hx := Lib.hid (show ∀ W, Below wr.heap.size wr W → W.rangeAt ab (ao + k * 32) (sumC x) from fun W hW => by
        have := ((HXs.out.below HB.out).below hW).range32 hlt
        rwa [List.getD_eq_getElem?_getD, hx] at this)
      have Hy := Lib.hid (show ∀ W, Below wr.heap.size wr W → W.rangeAt bb (bo + k * 32) (sumC y) from fun W hW => by
        have := ((HYs.out.below HB.out).below hW).range32 hlt
        rwa [List.getD_eq_getElem?_getD, hy] at this)
      have HX := Lib.hid hx
      have HY := Lib.hid hy
      clear hx hy
      go_upto_region 6 with fail
      refine wp_region_flowF [17, 18, 19, 20, 21, 22, 23, 24, 25] [(Spec.is (.slice (some ⟨ab, ao, none⟩) n c), false), (Spec.is (.int .i64 (k : Int)), false), (Spec.is (.pointer (some ⟨ab, ao + k * 32, none⟩)), false), (Spec.is (.agg (sumC x).toArray), false), (Spec.is (.slice (some ⟨bb, bo, none⟩) n d), false), (Spec.is (.int .i64 (k : Int)), false), (Spec.is (.pointer (some ⟨bb, bo + k * 32, none⟩)), false), (Spec.is (.agg (sumC y).toArray), false), (Spec.is (.bool (!decide (x = y))), false)] 26 (by kernel_rfl) rfl (by decide) rfl (by decide) (by kernel_rfl) ?_ ?_
      · refine ⟨?_, ?_, ?_, ?_, ?_, ?_, ?_, ?_, ?_, trivial⟩
        · intro a W hE hb hs
          have h0 : a.eval (.tmp 0) = .slice (some ⟨ab, ao, none⟩) n c := hb 0 (by decide)
          refine flow0 rfl ?_
          exact val_move _ rfl _ h0 ⟨rfl, trivial⟩
        · intro a W hE hb hs
          have h5 : a.eval (.tmp 5) = .int .i64 (k : Int) := hb 5 (by decide)
          refine flow0 rfl ?_
          exact val_move _ rfl _ h5 ⟨rfl, trivial⟩
        · intro a W hE hb hs
          have h17 : a.eval (.tmp 17) = .slice (some ⟨ab, ao, none⟩) n c := hs 0 (by decide)
          have h18 : a.eval (.tmp 18) = .int .i64 (k : Int) := hs 1 (by decide)
          refine flow0 rfl ?_
          intro K hK
          unfold Oper.wp execOp
          simp only [h17, h18]
          simp [go_sem, hkn, hk0]
          exact hK _ _ ⟨Below.refl _ _, rfl, trivial⟩
        · intro a W hE hb hs
          have h19 : a.eval (.tmp 19) = .pointer (some ⟨ab, ao + k * 32, none⟩) := hs 2 (by decide)
          refine flow0 rfl ?_
          exact val_load_row 93 _ rfl ab (ao + k * 32) h19 (sumC x) _ (Hx.out W (ext_below hE)) und32 rfl (by rw [sumC_len]; kernel_rfl) ⟨rfl, trivial⟩
        · intro a W hE hb hs
          have h1 : a.eval (.tmp 1) = .slice (some ⟨bb, bo, none⟩) n d := hb 1 (by decide)
          refine flow0 rfl ?_
          exact val_move _ rfl _ h1 ⟨rfl, trivial⟩
        · intro a W hE hb hs
          have h5 : a.eval (.tmp 5) = .int .i64 (k : Int) := hb 5 (by decide)
          refine flow0 rfl ?_
          exact val_move _ rfl _ h5 ⟨rfl, trivial⟩
        · intro a W hE hb hs
          have h21 : a.eval (.tmp 21) = .slice (some ⟨bb, bo, none⟩) n d := hs 4 (by decide)
          have h22 : a.eval (.tmp 22) = .int .i64 (k : Int) := hs 5 (by decide)
          refine flow0 rfl ?_
          intro K hK
          unfold Oper.wp execOp
          simp only [h21, h22]
          simp [go_sem, hkn, hk0]
          exact hK _ _ ⟨Below.refl _ _, rfl, trivial⟩
        · intro a W hE hb hs
          have h23 : a.eval (.tmp 23) = .pointer (some ⟨bb, bo + k * 32, none⟩) := hs 6 (by decide)
          refine flow0 rfl ?_
          exact val_load_row 93 _ rfl bb (bo + k * 32) h23 (sumC y) _ (Hy.out W (ext_below hE)) und32 rfl (by rw [sumC_len]; kernel_rfl) ⟨rfl, trivial⟩
        · intro a W hE hb hs
          have h20 : a.eval (.tmp 20) = .agg (sumC x).toArray := hs 3 (by decide)
          have h24 : a.eval (.tmp 24) = .agg (sumC y).toArray := hs 7 (by decide)
          refine flow0 rfl ?_
          intro K hK
          unfold Oper.wp execOp
          simp only [h20, h24]
          simp [go_sem, run_neq_sum]
          exact hK _ _ ⟨Below.refl _ _, rfl, trivial⟩
      · intro f W hb hT hp hd
        have e25 : f 25 = .bool (!decide (x = y)) := hT 8 (by decide)
        have HbW := Lib.hid (HB.out.trans (hb.mono HB.out.size))
        simp only [putV, List.foldl_cons, List.foldl_nil, Act.put, List.setIfInBounds_toArray, List.set_cons_succ, List.set_cons_zero, Exit.then]
        rw [e25]
        clear hb hT hp hd e25
        by_cases hxy : x = y
        · have e0 : decide (x = y) = true := decide_eq_true hxy
          rw [e0]
          have Hn := Lib.hid (take_eq_succ Htk.out HX.out HY.out hxy)
          clear e0 hxy
          go_wp2_with fail
          exact ⟨⟨k + 1, by push_cast; rfl, by omega, Hn.out, HbW.out⟩, by simp only [intOf]; omega⟩
        · have e0 : decide (x = y) = false := decide_eq_false hxy
          rw [e0]
          have Hr := Lib.hid (show R = false by
            rw [HR.out]; refine decide_eq_false (fun e => hxy ?_)
            have h1 := HX.out; rw [e, HY.out] at h1; exact (Option.some.inj h1).symm)
          clear e0 hxy
          go_wp2_with fail
          go_ret
          exact ⟨by rw [Hr.out]; rfl, HbW.out⟩
    · obtain rfl : k = n := by omega
      have d1 : decide ((k : Int) < (k : Int)) = false := decide_eq_false (by omega)
      have Hr := Lib.hid (show R = true by
        have h := Htk.out
        rw [List.take_of_length_le (by rw [Hxl.out]; omega), List.take_of_length_le (by rw [Hyl.out]; omega)] at h
        rw [HR.out]; exact decide_eq_true h)
      clear hlt
      go_wp2_with fail
      go_ret
      exact ⟨by rw [Hr.out]; rfl, HB.out⟩
set_option maxRecDepth 100000 in
set_option maxHeartbeats 1000000 in
theorem Same16_any (i1 i2 : Int) (C1 D1 C2 D2 : Option Addr) (n1 c1 m1 d1 n2 c2 m2 d2 : Nat) (ch1 pa1 ch2 pa2 : List Sum32) (w : World) (h1 : Rd w 32 C1 n1 (ch1.flatMap sumC)) (h2 : Rd w 32 D1 m1 (pa1.flatMap sumC)) (h3 : Rd w 32 C2 n2 (ch2.flatMap sumC)) (h4 : Rd w 32 D2 m2 (pa2.flatMap sumC)) (l1 : n1 ≤ 1000) (l2 : m1 ≤ 1000) (l3 : n2 ≤ 1000) (l4 : m2 ≤ 1000) :
    Calls Try.prog 51 #[.agg (sgV i1 C1 n1 c1 D1 m1 d1).toArray, .agg (sgV i2 C2 n2 c2 D2 m2 d2).toArray] w fun e w' => e = .returned (.bool (decide (i1 = i2 ∧ ch1 = ch2 ∧ pa1 = pa2))) ∧ Below w.heap.size w w' := by
  obtain ⟨R, hR⟩ : ∃ R, R = decide (i1 = i2 ∧ ch1 = ch2 ∧ pa1 = pa2) := ⟨_, rfl⟩
  rw [← hR]
  have HR := Lib.hid hR
  clear hR
  go_enter Try.func51, Try.ntmps51
  go_upto_region 1 with fail
  obtain ⟨w1, hw1⟩ : ∃ w1, w1 = (w.alloc (.cells (sgV i1 C1 n1 c1 D1 m1 d1).toArray 95)).alloc (.cells (sgV i2 C2 n2 c2 D2 m2 d2).toArray 95) := ⟨_, rfl⟩
  have hB1 : Below w.heap.size w w1 := by rw [hw1]; exact ((Below.refl _ _).alloc (Nat.le_refl _) _).alloc (by simp) _
  have hX1 : Blk w1 w.heap.size 95 (sgV i1 C1 n1 c1 D1 m1 d1).toArray := by rw [hw1]; exact (Blk.new _ _ _).alloc _
  have hY1 : Blk w1 (w.heap.size + 1) 95 (sgV i2 C2 n2 c2 D2 m2 d2).toArray := by
    have := Blk.new (w.alloc (.cells (sgV i1 C1 n1 c1 D1 m1 d1).toArray 95)) 95 (sgV i2 C2 n2 c2 D2 m2 d2).toArray
    rw [World.size_alloc] at this
    rw [hw1]; exact this
  rw [← hw1]
  try simp only [World.size_alloc]
  clear hw1
  have hsz1 := hB1.size
  have a0 : w1.cell? ⟨w.heap.size, 0, none⟩ = some (.int .i64 i1) := by rw [hX1.cell]; rfl
  have a1 : w1.cell? ⟨w.heap.size, 1, none⟩ = some (.slice C1 n1 c1) := by rw [hX1.cell]; rfl
  have a2 : w1.cell? ⟨w.heap.size, 2, none⟩ = some (.slice D1 m1 d1) := by rw [hX1.cell]; rfl
  have b0 : w1.cell? ⟨w.heap.size + 1, 0, none⟩ = some (.int .i64 i2) := by rw [hY1.cell]; rfl
  have b1 : w1.cell? ⟨w.heap.size + 1, 1, none⟩ = some (.slice C2 n2 c2) := by rw [hY1.cell]; rfl
  have b2 : w1.cell? ⟨w.heap.size + 1, 2, none⟩ = some (.slice D2 m2 d2) := by rw [hY1.cell]; rfl
  have HX := Lib.hid hX1
  have HY := Lib.hid hY1
  have HB := Lib.hid hB1
  have H1 := Lib.hid (h1.below hB1)
  have H2 := Lib.hid (h2.below hB1)
  have H3 := Lib.hid (h3.below hB1)
  have H4 := Lib.hid (h4.below hB1)
  clear hX1 hY1 hB1 h1 h2 h3 h4
  by_cases e0 : i1 = i2
  rotate_left
  · have g : (i1 == i2) = false := by rw [beq_eq_false_iff_ne]; exact e0
    have Hr := Lib.hid (show R = false by rw [HR.out]; exact decide_eq_false (fun h => e0 h.1))
    clear e0
    go_wp2_with fail
    go_ret
    exact ⟨by rw [Hr.out]; rfl, HB.out⟩
  have g : (i1 == i2) = true := by rw [beq_iff_eq]; exact e0
  have E0 := Lib.hid e0
  clear e0
  go_wp2_with fail
  refine (SameSums_any C1 C2 n1 n2 c1 c2 ch1 ch2 w1 H1.out H3.out l1 l3).mono ?_
  rintro e w2 ⟨rfl, hb2⟩
  have hX2 := HX.out.below hb2 HX.out.lt
  have hY2 := HY.out.below hb2 HY.out.lt
  have a2 : w2.cell? ⟨w.heap.size, 2, none⟩ = some (.slice D1 m1 d1) := by rw [hX2.cell]; rfl
  have b2 : w2.cell? ⟨w.heap.size + 1, 2, none⟩ = some (.slice D2 m2 d2) := by rw [hY2.cell]; rfl
  have HB2 := Lib.hid (HB.out.trans (hb2.mono hsz1))
  have H5 := Lib.hid (H2.out.below hb2)
  have H6 := Lib.hid (H4.out.below hb2)
  clear hX2 hY2 hb2 a0 a1 b0 b1 g
  by_cases e1 : ch1 = ch2
  rotate_left
  · have g : decide (ch1 = ch2) = false := decide_eq_false e1
    rw [g]
    have Hr := Lib.hid (show R = false by rw [HR.out]; exact decide_eq_false (fun h => e1 h.2.1))
    clear e1 g
    go_wp2_with fail
    go_ret
    exact ⟨by rw [Hr.out]; rfl, HB2.out⟩
  have g : decide (ch1 = ch2) = true := decide_eq_true e1
  rw [g]
  have Hr := Lib.hid (show R = decide (pa1 = pa2) by rw [HR.out]; simp [E0.out, e1])
  clear e1 g
  go_wp2_with fail
  refine (SameSums_any D1 D2 m1 m2 d1 d2 pa1 pa2 w2 H5.out H6.out l2 l4).mono ?_
  rintro e w3 ⟨rfl, hb3⟩
  have HB3 := Lib.hid (HB2.out.trans (hb3.mono HB2.out.size))
  rw [← Hr.out]
  clear hb3 Hr
  go_wp2_with fail
  go_ret
  exact ⟨rfl, HB3.out⟩
/-- 32 bytes: the given ones, zeros behind them. -/
def padL (l : List UInt8) : List UInt8 := (l ++ List.replicate 32 0).take 32
theorem padL_len (l : List UInt8) : (padL l).length = 32 := by unfold padL; rw [List.length_take, List.length_append, List.length_replicate]; omega
def padS (l : List UInt8) : Sum32 := ⟨padL l, padL_len l⟩
theorem padS_nil : padS [] = z32 := rfl
theorem padL_at (l : List UInt8) (j : Nat) (h : j < 32) : (padL l)[j]? = some (l.getD j 0) := by
  unfold padL
  rw [List.getElem?_take, if_pos h]
  by_cases a : j < l.length
  · rw [List.getElem?_append_left a, List.getD_eq_getElem?_getD, List.getElem?_eq_getElem a]; rfl
  · rw [List.getElem?_append_right (by omega), List.getElem?_replicate, if_pos (by omega), List.getD_eq_getElem?_getD, List.getElem?_eq_none (by omega)]; rfl
theorem padL_snoc {l : List UInt8} {b : UInt8} (_h : l.length < 32) : padL (l ++ [b]) = (padL l).set l.length b := by
  refine List.ext_getElem? fun j => ?_
  by_cases hj : j < 32
  · rw [padL_at _ j hj, List.getElem?_set]
    by_cases a : l.length = j
    · subst a
      rw [if_pos rfl, if_pos (by rw [padL_len]; exact hj)]
      simp
    · rw [if_neg a, padL_at _ j hj]
      congr 1
      rw [List.getD_eq_getElem?_getD, List.getD_eq_getElem?_getD]
      by_cases c : j < l.length
      · rw [List.getElem?_append_left c]
      · rw [List.getElem?_eq_none (by simp; omega), List.getElem?_eq_none (by omega)]
  · rw [List.getElem?_eq_none (by rw [padL_len]; omega), List.getElem?_eq_none (by rw [List.length_set, padL_len]; omega)]
theorem wpList_build1s {P : Program} {ops : Array Oper} {rest : List Oper} {Q : Exit → Act → World → Prop} {o : Oper} {a : Act} {w : World} (hg : o.guard = none) (t e : TypeId) (x : Operand) (ho : o.op = .buildSlice t 1 #[(0, x)])
    (cells : Array Value) (ie : TypeInfo) (z : Value) (s : Nat) (hu : P.underlying t = some (.slice e)) (hie : P.info? e = some ie) (hz : ie.zero = some z) (hs : ie.size = s) (hpos : 0 < s) (hsm : s ≤ 2 ^ 24)
    (hx : a.eval x = .agg cells) (hc : cells.size = s) (h : wpList P ops Q rest (a.put o.dst (.slice (some ⟨w.heap.size, 0, none⟩) 1 1)) (w.alloc (.cells cells e))) : wpList P ops Q (o :: rest) a w :=
  wpList_plain hg fun K hK => by
    have := step_build1 (ops := #[]) (E := True) (K := K) (Q := Q) hg t e x ho cells ie z s hu hie hz hs hpos hsm hx hc (hK _ _ h)
    rwa [if_pos (by simp [Region.wanted, hg])] at this
end Go.Proofs.Yteofgkdpknaapaa
