/- Package hash: leaves. -/
import Derived.Test.YtgblkaoioeceiaaDoorLeaf
import Derived.Great.BuildSlice
namespace Go.Proofs.YtgblkaoioeceiaaDoor
open Go.RowKit

/-- A hash. -/
def Sum32 : Type := {l : List UInt8 // l.length = 32}
def sumC (h : Sum32) : List Value := h.1.map byteV
theorem sumC_len (h : Sum32) : (sumC h).length = 32 := by simp [sumC, h.2]
def leafS (b : List UInt8) : Sum32 := ⟨leaf b, leaf_length b⟩
def pairS (a b : Sum32) : Sum32 := ⟨pair a.1 b.1, pair_length _ _⟩
/-- A slice's parts: address, length, capacity. -/
structure Sl where
  a : Option Addr
  n : Nat
  c : Nat
def slV (s : Sl) : Value := .slice s.a s.n s.c
/-- A slice of slices of bytes. -/
def Lst (w : World) (A : Option Addr) (n : Nat) (cs : List (List UInt8)) : Prop :=
  ∃ vs : List Sl, Rd w 1 A n (vs.map slV) ∧ cs.length = n ∧ ∀ (k : Nat) (v : Sl) (c : List UInt8), vs[k]? = some v → cs[k]? = some c → Rd w 1 v.a v.n (c.map byteV) ∧ v.n ≤ v.c
theorem Lst.len {w : World} {A : Option Addr} {n : Nat} {cs : List (List UInt8)} (h : Lst w A n cs) : cs.length = n := by obtain ⟨vs, h1, h2, h3⟩ := h; exact h2
theorem Lst.le {w : World} {A : Option Addr} {n : Nat} {cs : List (List UInt8)} (h : Lst w A n cs) : n ≤ 9223372036854775807 := by obtain ⟨vs, h1, h2, h3⟩ := h; exact h1.le
theorem Lst.below {w w' : World} {A : Option Addr} {n : Nat} {cs : List (List UInt8)} (h : Lst w A n cs) (hb : Below w.heap.size w w') : Lst w' A n cs := by
  obtain ⟨vs, h1, h2, h3⟩ := h
  exact ⟨vs, h1.below hb, h2, fun k v c hv hc => ⟨((h3 k v c hv hc).1).below hb, (h3 k v c hv hc).2⟩⟩
theorem Lst.at_ {w : World} {A : Option Addr} {n k : Nat} {cs : List (List UInt8)} (h : Lst w A n cs) (hk : k < n) :
    ∃ (b off : Nat) (v : Sl) (c : List UInt8), A = some ⟨b, off, none⟩ ∧ cs[k]? = some c ∧ w.cell? ⟨b, off + k, none⟩ = some (.slice v.a v.n v.c) ∧ Rd w 1 v.a v.n (c.map byteV) ∧ v.n ≤ v.c := by
  obtain ⟨vs, h1, h2, h3⟩ := h
  obtain ⟨b, off, v, e, hv, hc⟩ := h1.at_ hk
  have hk' : k < cs.length := by omega
  have := h3 k v cs[k] hv (List.getElem?_eq_getElem hk')
  exact ⟨b, off, v, cs[k], e, List.getElem?_eq_getElem hk', hc, this.1, this.2⟩

/-- A slice of one element of several cells, known as a list. -/
theorem wpList_build1 {P : Program} {ops : Array Oper} {rest : List Oper} {o : Oper} {a : Act} {w : World} {Q : Exit → Act → World → Prop} (hg : o.guard = none) (t e : TypeId) (x : Operand) (ho : o.op = .buildSlice t 1 #[(0, x)])
    (cells : Array Value) (ie : TypeInfo) (z : Value) (s : Nat) (hu : P.underlying t = some (.slice e)) (hie : P.info? e = some ie) (hz : ie.zero = some z) (hs : ie.size = s) (hpos : 0 < s) (hsm : s ≤ 2 ^ 24)
    (hx : a.eval x = .agg cells) (hc : cells.size = s)
    (h : wpList P ops Q rest (a.put o.dst (.slice (some ⟨w.heap.size, 0, none⟩) 1 1)) (w.alloc (.cells cells e))) : wpList P ops Q (o :: rest) a w := by
  subst hs
  refine wpList_buildSlice hg t e 1 _ ho cells ie z hu hie hz (by omega) (by omega) ?_ h
  have := Great.fill_whole hpos [.agg cells] ((Array.range (1 * ie.size)).map (z.cells[· % z.cells.size]!)) (by simp [Value.cells, hc]) (by simp)
  simpa [hx, Value.cells] using this

theorem ownsRow_cap {w : World} {base : Nat} {e : TypeId} {sz n c : Nat} {A : Option Addr} {xs : List Value} (h : w.ownsRow base e sz (.slice A n c) n xs) : n ≤ c := by
  rcases h.2 with ⟨hv, rfl⟩ | ⟨g, cap, cur, hv, hb, hg, hnc, hcm, _⟩
  · exact Nat.zero_le _
  · injection hv with h1 h2 h3
    omega

theorem info32 : (Tryd.prog.info? 32).map (fun i => (i.zero, i.size, i.bytes)) = some (some (.agg zero32), 32, 32) := by kernel_rfl

set_option maxRecDepth 100000 in
set_option maxHeartbeats 1000000 in
theorem Leaves_any (A : Option Addr) (len cap : Nat) (cs : List (List UInt8)) (w : World) (hg : Globs w) (hr : Lst w A len cs) (hlen : len ≤ 1000000) (hcs : ∀ c ∈ cs, c.length ≤ 8796093022000) :
    Calls Tryd.prog 28 #[.slice A len cap] w fun e w' => ∃ A' c', e = .returned (.slice A' len c') ∧ len ≤ c' ∧ Rd w' 32 A' len ((cs.map leafS).flatMap sumC) ∧ Below w.heap.size w w' ∧ ∀ b off, A' = some ⟨b, off, none⟩ → w.heap.size ≤ b := by
  obtain ⟨i0, hi0, hz0, hz1, hz2⟩ := info_parts info32
  have hle := hr.le
  have hl := hr.len
  subst hl
  have hown := World.ownsRow_nil w w.heap.size 32 32
  go_enter Tryd.func28, Tryd.ntmps28
  go_wp2
  go_loopw [3, 5, 8] (fun v _ i wr => ∃ k : Nat, k ≤ cs.length ∧ i = .int .i64 k ∧ wr.ownsRow w.heap.size 32 32 v k (((cs.take k).map leafS).flatMap sumC) ∧ Below w.heap.size w wr) (fun _ _ i _ => cs.length - (intOf i).toNat)
  case atStart => exact ⟨0, by omega, rfl, by simpa using hown, Below.refl _ _⟩
  case round =>
    obtain ⟨k, hk, rfl, hrow, hB⟩ := hrel
    have hsz := hB.size
    by_cases hlt : k < cs.length
    · obtain ⟨b, off, v, c, rfl, hx, c1, hrd, hvc⟩ := (hr.below hB).at_ hlt
      have hcl := hcs c (List.mem_of_getElem? hx)
      have hvn := hrd.len1
      have hleaf := Leaf_any v.a v.n v.c c wr (hg.below hB) hrd (by omega)
      have htk : cs.take (k + 1) = cs.take k ++ [c] := by rw [List.take_add_one, hx]; rfl
      have hlf := leaf_length c
      have Ht := Lib.hid htk
      have Hrow := Lib.hid hrow
      have HB := Lib.hid hB
      have Hleaf := Lib.hid hleaf
      clear htk hx hr hg hrow hB hleaf hrd hcs hown
      go_wp2_with fail
      refine Hleaf.out.mono ?_
      rintro e w1 ⟨rfl, hb1⟩
      have hrow1 : ∀ o, (w1.alloc o).ownsRow w.heap.size 32 32 u3 k (((cs.take k).map leafS).flatMap sumC) := fun o => (Hrow.out.kept (⟨hb1.os, hb1.tape, hb1.output, hb1.size, fun k hk _ => hb1.block k hk⟩ : wr.grownBy w1 none) (by cases u3.ownBlock <;> simp)).alloc o
      have Hrow1 := Lib.hid hrow1
      have hs1 := hb1.size
      have HB1 := Lib.hid (HB.out.trans (hb1.mono hsz))
      clear hrow1 hb1 Hrow HB
      unfold sumV
      have hlc := sumV_size hlf
      have hll : ((leaf c).map byteV).length = 1 * 32 := by simp [hlf]
      generalize hhs : leaf c = hs at *
      have Hhs := Lib.hid hhs
      clear hhs
      go_wp2_with (first | (refine wpList_build1 rfl 27 32 (.tmp 14) rfl _ i0 _ 32 Tryd.underlying27 hi0 hz0 hz1 (by omega) (by omega) rfl hlc ?_) | (at_builtin; refine wpList_append_own _ rfl (.tmp 12) (.tmp 15) 27 rfl w.heap.size 32 i0 (.agg zero32) 32 32 Tryd.underlying27 hi0 hz0 hz1 hz2 rfl (by decide) _ k _ rfl (Hrow1.out _) ⟨w1.heap.size, 0, none⟩ 1 1 (hs.map byteV) rfl hll (cells_new _ _ _) (oneB _) (by unfold maxLen; omega) (by omega) (by simp; omega) ?_; intro v' w2 hown' hgrow _))
      have hB3 : Below w.heap.size w w2 := (HB1.out.alloc (by omega) _).grown hgrow (by simp; omega) (fun k' e' => ((Hrow1.out (.cells (hs.map byteV).toArray 32)).lt k' e').1)
      exact ⟨⟨k + 1, by omega, by go_num, by rw [Ht.out, List.map_append, List.flatMap_append, List.map_cons, List.map_nil, show [leafS c].flatMap sumC = hs.map byteV from by rw [← Hhs.out]; simp only [List.flatMap_cons, List.flatMap_nil, List.append_nil]; rfl]; exact hown', hB3⟩, by simp [intOf]; omega⟩
    · go_wp2
      go_ret
      obtain rfl : k = cs.length := by omega
      obtain ⟨A2, c2, rfl⟩ := ownsRow_slice hrow
      have hcc := ownsRow_cap hrow
      rw [List.take_length] at hrow
      exact ⟨A2, c2, rfl, hcc, Rd.of_own hrow, hB, fun b off e => (hrow.lt b (by rw [e]; rfl)).1⟩
end Go.Proofs.YtgblkaoioeceiaaDoor
