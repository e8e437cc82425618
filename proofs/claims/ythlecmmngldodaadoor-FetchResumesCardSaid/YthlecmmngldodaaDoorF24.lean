/- The proofs of a list, typed; what a write to a transfer leaves. -/
import Derived.Test.YthlecmmngldodaaDoorF23
namespace Go.Proofs.YthlecmmngldodaaDoor
open Go.RowKit Go.Sort

/-- A region that draws its order, all of it: reads first, then one walk along the chain (web_start0). -/
theorem wp_region_web {P : Program} {id : Nat} {Q : Exit → Act → World → Prop} {a : Act} {w : World} {l : List Oper} (is1 : List Nat) (fuel : Nat) (hm : P.follows .mixedOrders = true)
    (hs : Region.noSelect l.toArray = true) (hQ : ∀ c a d v w, Q (.panic c) (Act.put a d v) w → Q (.panic c) a w)
    (hB1 : orderB .any l.toArray is1 (Array.replicate l.length false) = true) (hp : (pickOps l is1).all plainOp = true) (hlen : is1.length + fuel = l.length)
    (h : wpQuiet P l.toArray (Ext w) (fun a1 => wpAnyH P .any l.toArray Q (Ext w) fuel (setAll (Array.replicate l.length false) is1) a1 w.drew) (pickOps l is1) a) :
    (Code.region id l.toArray true).wp P Q a w := by
  refine wp_region_held (S := Ext w) hm ?_
  have key : wpAnyH P .any l.toArray Q (Ext w) (is1.length + fuel) (Array.replicate l.length false) a w.drew := by
    refine wpAnyH_reads hs hQ is1 _ a w.drew (ext_drew (ext_refl w)) hB1 hp ?_
    exact h
  rw [hlen] at key
  simpa using key
theorem Pfs.setRow {w : World} {base : Nat} {ks : List Ck} {cs : List (List UInt8)} {g t : Nat} {old : Array Value} (h : Pfs w base ks cs) (hg : Blk w g t old) (hlt : base ≤ g) (hne : t ≠ 33) (cells : Array Value) : Pfs (w.setRow g cells) base ks cs := fun k x hx => by
  obtain ⟨h1, c, h2, h3, h4, h5, h6, h7⟩ := h k x hx
  have HK := (KeptIn.refl (fun k => k ≠ g) w).setRow (g := g) (fun h => h rfl) cells
  exact ⟨h1, c, h2, h3.keptIn HK (fun b off hn e => by have := h5 b off hn e; show b ≠ g; omega), h4, h5, h6.kept hg hne HK, h7⟩
set_option maxRecDepth 100000 in
set_option maxHeartbeats 1000000 in
/-- .. the list lay in an earlier world; the proofs lie in a block of their own, that is new. -/
theorem Proofs_typed (A : Option Addr) (len cap : Nat) (cs : List (List UInt8)) (w0 w : World) (hr0 : Lst w0 A len cs) (hb0 : Below w0.heap.size w0 w) (hlen : len ≤ 1000) (hcs : ∀ c ∈ cs, c.length ≤ 8796093021000) :
    Calls Tryd.prog 20 #[.slice A len cap] w fun e w' => ∃ A' c' ks, e = .returned (.slice A' len c') ∧ len ≤ c' ∧ ks.length = len ∧ TRd w' 48 3 A' len (ks.flatMap ckV) ∧ (∀ b off, 0 < len → A' = some ⟨b, off, none⟩ → w.heap.size ≤ b) ∧ Pfs w' w0.heap.size ks cs ∧ Below w.heap.size w w' := by
  have hr := hr0.below hb0
  have hw0 := hb0.size
  have Hr0 := Lib.hid hr0
  have Hb0 := Lib.hid hb0
  clear hr0 hb0
  obtain ⟨i0, hi0, hz0, hz1, hz2⟩ := info_parts info48
  have hl := hr.len
  have Hr := Lib.hid hr
  have Hcs := Lib.hid hcs
  have Hl := Lib.hid hl
  clear hr hcs hl
  go_enter Tryd.func20, Tryd.ntmps20
  go_wp2_with fail
  go_loopw [3, 4, 5, 6, 14] (fun v3 v4 _ _ _ wr => ∃ (k : Nat) (ks : List Ck), k ≤ len ∧ ks.length = k ∧ v4 = .int .i64 (k : Int) ∧ AppZ wr w.heap.size 48 3 v3 k (ks.flatMap ckV) ∧ (∀ g, v3.ownBlock = some g → ∃ cur, Blk wr g 48 cur) ∧ Pfs wr w0.heap.size ks cs ∧ Below w.heap.size w wr) (fun _ v4 _ _ _ _ => len - (intOf v4).toNat)
  case atStart => exact ⟨0, [], by omega, rfl, rfl, AppZ.empty _ (Nat.le_refl _) _, fun g e => by simp only [Value.ownBlock, Option.some.injEq] at e; subst e; exact ⟨_, Blk.new _ _ _⟩, fun k x hx => by simp at hx, (Below.refl _ _).alloc (Nat.le_refl _) _⟩
  case round =>
    obtain ⟨k, ks, hk, hkl, rfl, happ, hty, hpf, hB⟩ := hrel
    have hsz := hB.size
    by_cases hlt : k < len
    · obtain ⟨b, off, v, x, rfl, hx, cx, hrx, hvc⟩ := (Hr.out.below hB).at_ hlt
      have hpr := RProof_typed (some ⟨b, off, none⟩) len cap k cs wr (Hr.out.below hB) (by omega) Hcs.out hlt
      have hvb : ∀ b off, 0 < v.n → v.a = some ⟨b, off, none⟩ → b < w0.heap.size := by
        obtain ⟨b', off', v', x', e, hx', cx', hrx', _⟩ := Hr0.out.at_ hlt
        cases e
        have hB0 := Hb0.out.trans (hB.mono hw0)
        have hcc := (hB0.cell (World.block_lt_of_cell? w0 _ cx')).trans cx'
        rw [cx] at hcc
        have hvv : v = v' := by
          obtain ⟨a1, n1, c1⟩ := v
          obtain ⟨a2, n2, c2⟩ := v'
          injection hcc with hcc
          injection hcc with e1 e2 e3
          subst e1 e2 e3
          rfl
        subst hvv
        exact fun b off hn e => hrx'.lt (by omega) hn e
      have Hpr := Lib.hid hpr
      have Happ := Lib.hid happ
      have Hpf := Lib.hid hpf
      have HB := Lib.hid hB
      have Hrx := Lib.hid hrx
      have Hx := Lib.hid hx
      have Hvb := Lib.hid hvb
      have Hkl := Lib.hid hkl
      have Hty := Lib.hid hty
      clear hty hpr happ hpf hB hrx hx hvb hkl
      go_wp2_with fail
      refine Hpr.out.mono ?_
      rintro e w4 ⟨A4, n4, c4, rfl, hn4, hr4, hb4, _⟩
      have cx4 := (hb4.cell (World.block_lt_of_cell? wr _ cx)).trans cx
      have Hr4 := Lib.hid hr4
      have Hb4 := Lib.hid hb4
      have hs4 := hb4.size
      have hbu := built48 (k : Int) v ⟨A4, n4, c4⟩
      have Hbu := Lib.hid hbu
      clear hr4 hb4 hbu cx Hpr
      go_wp2_with (first | (refine wpList_build3 rfl 48 0 1 2 (.tmp 21) (.tmp 25) (.tmp 26) rfl (.int .i64 (k : Int)) (slV v) (slV ⟨A4, n4, c4⟩) rfl rfl rfl _ Hbu.out ?_) | (refine wpList_build1 rfl 44 48 (.tmp 27) rfl (ckV ⟨(k : Int), v, ⟨A4, n4, c4⟩⟩).toArray i0 _ 3 Tryd.underlying44 hi0 hz0 hz1 (by omega) (by omega) rfl rfl ?_) | (at_builtin; go_loud (refine wpList_appz rfl (.tmp 20) (.tmp 28) 44 rfl 48 i0 _ 3 56 Tryd.underlying44 hi0 hz0 hz1 hz2 rfl (by omega) w.heap.size (by simp; omega) _ k _ rfl ((Happ.out.below Hb4.out (Nat.le_refl _)).alloc _) (some ⟨w4.heap.size, 0, none⟩) 1 1 (ckV ⟨(k : Int), v, ⟨A4, n4, c4⟩⟩) rfl (Blk.rdN _ rfl) (ck_one _) (by unfold maxLen; omega) (by omega) ?_; intro v9 w9 happ9 hg9)))
      have hk1 : (ks ++ [(⟨(k : Int), v, ⟨A4, n4, c4⟩⟩ : Ck)]).length = k + 1 := by rw [List.length_append, Hkl.out]; rfl
      have hf1 : (ks ++ [(⟨(k : Int), v, ⟨A4, n4, c4⟩⟩ : Ck)]).flatMap ckV = ks.flatMap ckV ++ ckV ⟨(k : Int), v, ⟨A4, n4, c4⟩⟩ := by rw [List.flatMap_append, List.flatMap_cons, List.flatMap_nil, List.append_nil]
      have hp1 := (Hpf.out.below Hb4.out).snoc ⟨(k : Int), v, ⟨A4, n4, c4⟩⟩ x (by rw [Hkl.out]) (by rw [Hkl.out]; exact Hx.out) (Hrx.out.below Hb4.out) hvc Hvb.out (by rw [Hkl.out]; exact Hr4.out) hn4
      have hrow := (Happ.out.below Hb4.out (Nat.le_refl _))
      have hal : Below w4.heap.size w4 (w4.alloc (.cells (ckV ⟨(k : Int), v, ⟨A4, n4, c4⟩⟩).toArray 48)) := (Below.refl _ _).alloc (Nat.le_refl _) _
      have hlt9 : ∀ g, u3.ownBlock = some g → w.heap.size ≤ g := fun g e => (hrow.lt g e).1
      have hlt0 : ∀ g, u3.ownBlock = some g → w0.heap.size ≤ g := fun g e => Nat.le_trans hw0 (hlt9 g e)
      have hp9 := (hp1.below hal).grown hg9 (t := 48) (fun g e => by
        obtain ⟨cur, hc⟩ := Hty.out g e
        exact ⟨cur, (hc.below Hb4.out hc.lt).below hal (by have := hc.lt; omega)⟩) hlt0 (by decide)
      exact ⟨⟨k + 1, ks ++ [⟨(k : Int), v, ⟨A4, n4, c4⟩⟩], by omega, hk1, by go_num, by rw [hf1]; exact happ9, happ9.row (by omega), hp9, ((HB.out.trans (Hb4.out.mono hsz)).alloc (by omega) _).grown hg9 (by simp; omega) hlt9⟩, by simp [intOf]; omega⟩
    · obtain rfl : k = len := by omega
      obtain ⟨A', c', rfl, hc', _⟩ := happ.rd
      have hR := happ.trd
      have hbl : ∀ b off, 0 < k → A' = some ⟨b, off, none⟩ → w.heap.size ≤ b := fun b off h0 e => by
        subst e
        exact (happ.lt b rfl).1
      have HR := Lib.hid hR
      have Hbl := Lib.hid hbl
      have HB := Lib.hid hB
      have Hpf := Lib.hid hpf
      have Hkl := Lib.hid hkl
      clear hR hbl hB hpf hkl happ hty
      go_wp2_with fail
      go_ret
      exact ⟨A', c', ks, rfl, hc', Hkl.out, HR.out, Hbl.out, Hpf.out, HB.out⟩
end Go.Proofs.YthlecmmngldodaaDoor
