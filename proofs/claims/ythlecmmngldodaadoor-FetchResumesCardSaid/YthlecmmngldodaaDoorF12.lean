/- The reference of package fetch: Proofs. -/
import Derived.Test.YthlecmmngldodaaDoorF11
namespace Go.Proofs.YthlecmmngldodaaDoor
open Go.RowKit Go.Sort

/-- A chunk with its number and its proof, as it lies in a list. -/
structure Ck where
  (i : Int) (d l : Sl)
def ckV (x : Ck) : List Value := [.int .i64 x.i, slV x.d, slV x.l]
theorem ckV_len (x : Ck) : (ckV x).length = 3 := rfl
/-- The chunks of a list with their proofs. -/
def Pfs (w : World) (base : Nat) (ks : List Ck) (cs : List (List UInt8)) : Prop := ∀ (k : Nat) (x : Ck), ks[k]? = some x → x.i = (k : Int) ∧ ∃ c, cs[k]? = some c ∧ Rd w 1 x.d.a x.d.n (c.map byteV) ∧ x.d.n ≤ x.d.c ∧ (∀ b off, 0 < x.d.n → x.d.a = some ⟨b, off, none⟩ → b < base) ∧ TRd w 33 32 x.l.a x.l.n ((proofL (cs.map leafS) k).flatMap sumC) ∧ x.l.n ≤ x.l.c
theorem Pfs.below {w w' : World} {base : Nat} {ks : List Ck} {cs : List (List UInt8)} (h : Pfs w base ks cs) (hb : Below w.heap.size w w') : Pfs w' base ks cs := fun k x hx => by
  obtain ⟨h1, c, h2, h3, h4, h5, h6, h7⟩ := h k x hx
  exact ⟨h1, c, h2, h3.below hb, h4, h5, h6.below hb, h7⟩
theorem Pfs.grown {w w' : World} {base : Nat} {ks : List Ck} {cs : List (List UInt8)} {row : Option Nat} {t : Nat} (h : Pfs w base ks cs) (hg : w.grownBy w' row) (hrow : ∀ g, row = some g → ∃ cur, Blk w g t cur) (hlt : ∀ g, row = some g → base ≤ g) (hne : t ≠ 33) : Pfs w' base ks cs := fun k x hx => by
  obtain ⟨h1, c, h2, h3, h4, h5, h6, h7⟩ := h k x hx
  exact ⟨h1, c, h2, h3.kept hg (by omega) (fun b off hn e hr => by have := h5 b off hn e; have := hlt b hr.symm; omega), h4, h5, h6.grown hg hrow hne, h7⟩
theorem Pfs.snoc {w : World} {base : Nat} {ks : List Ck} {cs : List (List UInt8)} (h : Pfs w base ks cs) (x : Ck) (c : List UInt8) (h1 : x.i = (ks.length : Int)) (h2 : cs[ks.length]? = some c) (h3 : Rd w 1 x.d.a x.d.n (c.map byteV)) (h4 : x.d.n ≤ x.d.c) (h5 : ∀ b off, 0 < x.d.n → x.d.a = some ⟨b, off, none⟩ → b < base) (h6 : TRd w 33 32 x.l.a x.l.n ((proofL (cs.map leafS) ks.length).flatMap sumC)) (h7 : x.l.n ≤ x.l.c) : Pfs w base (ks ++ [x]) cs := fun k y hy => by
  by_cases hk : k < ks.length
  · rw [List.getElem?_append_left hk] at hy
    exact h k y hy
  · have hkl : k = ks.length := by
      have := (List.getElem?_eq_some_iff.1 hy).1
      simp at this
      omega
    subst hkl
    rw [List.getElem?_append_right (Nat.le_refl _), Nat.sub_self] at hy
    cases hy
    exact ⟨h1, c, h2, h3, h4, h5, h6, h7⟩
theorem Blk.rdN {w : World} {e sz : Nat} (xs : List Value) (hl : xs.length = sz) : Rd (w.alloc (.cells xs.toArray e)) sz (some ⟨w.heap.size, 0, none⟩) 1 xs :=
  ⟨by omega, by omega, fun _ => ⟨_, _, rfl, fun j u hu => by have := cells_new w xs e j u hu; rwa [show (⟨w.heap.size, 0, none⟩ : Addr).add j = ⟨w.heap.size, 0 + j, none⟩ from by unfold Addr.add; split <;> simp_all] at this⟩⟩
theorem info48 : (Tryd.prog.info? 48).map (fun i => (i.zero, i.size, i.bytes)) = some (some (.agg #[.int .i64 0, .slice none 0 0, .slice none 0 0]), 3, 56) := by kernel_rfl
theorem built48 (i : Int) (d l : Sl) : Tryd.prog.built 48 [(0, .int .i64 i), (1, slV d), (2, slV l)] = some (ckV ⟨i, d, l⟩).toArray := by
  cases d; cases l; kernel_rfl
theorem ck_one (x : Ck) : ∀ u ∈ ckV x, u.oneCell' = true := fun u hu => by
  simp [ckV] at hu
  rcases hu with rfl | rfl | rfl <;> rfl

set_option maxRecDepth 100000 in
set_option maxHeartbeats 1000000 in
theorem Proofs_any (A : Option Addr) (len cap : Nat) (cs : List (List UInt8)) (w : World) (hr : Lst w A len cs) (hlen : len ≤ 1000) (hcs : ∀ c ∈ cs, c.length ≤ 8796093021000) :
    Calls Tryd.prog 20 #[.slice A len cap] w fun e w' => ∃ A' c' ks, e = .returned (.slice A' len c') ∧ len ≤ c' ∧ ks.length = len ∧ Rd w' 3 A' len (ks.flatMap ckV) ∧ Pfs w' w.heap.size ks cs ∧ Below w.heap.size w w' := by
  obtain ⟨i0, hi0, hz0, hz1, hz2⟩ := info_parts info48
  have hl := hr.len
  have Hr := Lib.hid hr
  have Hcs := Lib.hid hcs
  have Hl := Lib.hid hl
  clear hr hcs hl
  go_enter Tryd.func20, Tryd.ntmps20
  go_wp2_with fail
  go_loopw [3, 4, 5, 6, 14] (fun v3 v4 _ _ _ wr => ∃ (k : Nat) (ks : List Ck), k ≤ len ∧ ks.length = k ∧ v4 = .int .i64 (k : Int) ∧ AppZ wr w.heap.size 48 3 v3 k (ks.flatMap ckV) ∧ (∀ g, v3.ownBlock = some g → ∃ cur, Blk wr g 48 cur) ∧ Pfs wr w.heap.size ks cs ∧ Below w.heap.size w wr) (fun _ v4 _ _ _ _ => len - (intOf v4).toNat)
  case atStart => exact ⟨0, [], by omega, rfl, rfl, AppZ.empty _ (Nat.le_refl _) _, fun g e => by simp only [Value.ownBlock, Option.some.injEq] at e; subst e; exact ⟨_, Blk.new _ _ _⟩, fun k x hx => by simp at hx, (Below.refl _ _).alloc (Nat.le_refl _) _⟩
  case round =>
    obtain ⟨k, ks, hk, hkl, rfl, happ, hty, hpf, hB⟩ := hrel
    have hsz := hB.size
    by_cases hlt : k < len
    · obtain ⟨b, off, v, x, rfl, hx, cx, hrx, hvc⟩ := (Hr.out.below hB).at_ hlt
      have hpr := RProof_typed (some ⟨b, off, none⟩) len cap k cs wr (Hr.out.below hB) (by omega) Hcs.out hlt
      have hvb : ∀ b off, 0 < v.n → v.a = some ⟨b, off, none⟩ → b < w.heap.size := by
        obtain ⟨b', off', v', x', e, hx', cx', hrx', _⟩ := Hr.out.at_ hlt
        cases e
        have hcc := (hB.cell (World.block_lt_of_cell? w _ cx')).trans cx'
        rw [cx] at hcc
        have hvv : v = v' := by
          obtain ⟨a1, n1, c1⟩ := v
          obtain ⟨a2, n2, c2⟩ := v'
          injection hcc with hcc
          injection hcc with e1 e2 e3
          subst e1 e2 e3
          rfl
        subst hvv
        exact fun b off hn e => hrx'.lt (by omega) hn e
      have Hpr := Lib.hid hpr
      have Happ := Lib.hid happ
      have Hpf := Lib.hid hpf
      have HB := Lib.hid hB
      have Hrx := Lib.hid hrx
      have Hx := Lib.hid hx
      have Hvb := Lib.hid hvb
      have Hkl := Lib.hid hkl
      have Hty := Lib.hid hty
      clear hty hpr happ hpf hB hrx hx hvb hkl
      go_wp2_with fail
      refine Hpr.out.mono ?_
      rintro e w4 ⟨A4, n4, c4, rfl, hn4, hr4, hb4, _⟩
      have cx4 := (hb4.cell (World.block_lt_of_cell? wr _ cx)).trans cx
      have Hr4 := Lib.hid hr4
      have Hb4 := Lib.hid hb4
      have hs4 := hb4.size
      have hbu := built48 (k : Int) v ⟨A4, n4, c4⟩
      have Hbu := Lib.hid hbu
      clear hr4 hb4 hbu cx Hpr
      go_wp2_with (first | (refine wpList_build3 rfl 48 0 1 2 (.tmp 21) (.tmp 25) (.tmp 26) rfl (.int .i64 (k : Int)) (slV v) (slV ⟨A4, n4, c4⟩) rfl rfl rfl _ Hbu.out ?_) | (refine wpList_build1 rfl 44 48 (.tmp 27) rfl (ckV ⟨(k : Int), v, ⟨A4, n4, c4⟩⟩).toArray i0 _ 3 Tryd.underlying44 hi0 hz0 hz1 (by omega) (by omega) rfl rfl ?_) | (at_builtin; go_loud (refine wpList_appz rfl (.tmp 20) (.tmp 28) 44 rfl 48 i0 _ 3 56 Tryd.underlying44 hi0 hz0 hz1 hz2 rfl (by omega) w.heap.size (by simp; omega) _ k _ rfl ((Happ.out.below Hb4.out (Nat.le_refl _)).alloc _) (some ⟨w4.heap.size, 0, none⟩) 1 1 (ckV ⟨(k : Int), v, ⟨A4, n4, c4⟩⟩) rfl (Blk.rdN _ rfl) (ck_one _) (by unfold maxLen; omega) (by omega) ?_; intro v9 w9 happ9 hg9)))
      have hk1 : (ks ++ [(⟨(k : Int), v, ⟨A4, n4, c4⟩⟩ : Ck)]).length = k + 1 := by rw [List.length_append, Hkl.out]; rfl
      have hf1 : (ks ++ [(⟨(k : Int), v, ⟨A4, n4, c4⟩⟩ : Ck)]).flatMap ckV = ks.flatMap ckV ++ ckV ⟨(k : Int), v, ⟨A4, n4, c4⟩⟩ := by rw [List.flatMap_append, List.flatMap_cons, List.flatMap_nil, List.append_nil]
      have hp1 := (Hpf.out.below Hb4.out).snoc ⟨(k : Int), v, ⟨A4, n4, c4⟩⟩ x (by rw [Hkl.out]) (by rw [Hkl.out]; exact Hx.out) (Hrx.out.below Hb4.out) hvc Hvb.out (by rw [Hkl.out]; exact Hr4.out) hn4
      have hrow := (Happ.out.below Hb4.out (Nat.le_refl _))
      have hal : Below w4.heap.size w4 (w4.alloc (.cells (ckV ⟨(k : Int), v, ⟨A4, n4, c4⟩⟩).toArray 48)) := (Below.refl _ _).alloc (Nat.le_refl _) _
      have hlt9 : ∀ g, u3.ownBlock = some g → w.heap.size ≤ g := fun g e => (hrow.lt g e).1
      have hp9 := (hp1.below hal).grown hg9 (t := 48) (fun g e => by
        obtain ⟨cur, hc⟩ := Hty.out g e
        exact ⟨cur, (hc.below Hb4.out hc.lt).below hal (by have := hc.lt; omega)⟩) hlt9 (by decide)
      exact ⟨⟨k + 1, ks ++ [⟨(k : Int), v, ⟨A4, n4, c4⟩⟩], by omega, hk1, by go_num, by rw [hf1]; exact happ9, happ9.row (by omega), hp9, ((HB.out.trans (Hb4.out.mono hsz)).alloc (by omega) _).grown hg9 (by simp; omega) hlt9⟩, by simp [intOf]; omega⟩
    · obtain rfl : k = len := by omega
      obtain ⟨A', c', rfl, hc', hR⟩ := happ.rd
      have HR := Lib.hid hR
      have HB := Lib.hid hB
      have Hpf := Lib.hid hpf
      have Hkl := Lib.hid hkl
      clear hR hB hpf hkl happ hty
      go_wp2_with fail
      go_ret
      exact ⟨A', c', ks, rfl, hc', Hkl.out, HR.out, Hpf.out, HB.out⟩
end Go.Proofs.YthlecmmngldodaaDoor
