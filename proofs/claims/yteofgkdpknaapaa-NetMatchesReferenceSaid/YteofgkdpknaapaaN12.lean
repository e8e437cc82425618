/- Package net: packets in memory, nets. -/
import Derived.Test.YteofgkdpknaapaaN10
import Derived.Test.YteofgkdpknaapaaN11
namespace Go.Proofs.Yteofgkdpknaapaa
open Go.RowKit Go.Sort

/-- A packet, as it lies in a row. -/
structure Pv where
  (k u n : Int) (D : Option Addr) (dn dc : Nat) (P : Option Addr) (pn pc : Nat) (B : Option Addr) (bn bc : Nat) (S : Option Addr) (sn sc : Nat)
def pvC (x : Pv) : List Value := pkC x.k x.u x.n (.slice x.D x.dn x.dc) (.slice x.P x.pn x.pc) (.slice x.B x.bn x.bc) (.slice x.S x.sn x.sc)
def pv0 : Pv := ⟨0, 0, 0, none, 0, 0, none, 0, 0, none, 0, 0, none, 0, 0⟩
theorem pvC_len (x : Pv) : (pvC x).length = 7 := rfl
theorem pv_one (x : Pv) : ∀ v ∈ pvC x, v.oneCell' = true := fun v hv => by
  simp only [pvC, pkC, List.mem_cons, List.not_mem_nil, or_false] at hv
  rcases hv with rfl | rfl | rfl | rfl | rfl | rfl | rfl <;> rfl
theorem pvs_one (xs : List Pv) : ∀ v ∈ xs.flatMap pvC, v.oneCell' = true := fun v hv => by
  obtain ⟨x, _, hx⟩ := List.mem_flatMap.1 hv
  exact pv_one x v hx
theorem SgsAt.keptIn {S : Nat → Prop} {w w' : World} {A : Option Addr} {n : Nat} {xs : List Ky} (h : SgsAt w A n xs) (hk : KeptIn S w w') (h1 : ∀ b cur, Blk w b 93 cur → S b) (h2 : ∀ b cur, Blk w b 98 cur → S b) : SgsAt w' A n xs := by
  obtain ⟨vs, a, b⟩ := h
  exact ⟨vs, a.keptIn hk h2, b.keptIn hk h1⟩
theorem SgsAt.below {w w' : World} {A : Option Addr} {n : Nat} {xs : List Ky} (h : SgsAt w A n xs) (hb : Below w.heap.size w w') : SgsAt w' A n xs :=
  h.keptIn (KeptIn.of_below (S := fun k => k < w.heap.size) hb fun _ hk => hk) (fun _ _ hb => hb.lt) fun _ _ hb => hb.lt
theorem SgsAt.nil (w : World) : SgsAt w none 0 [] := ⟨[], trd_none _ _ _, KvsOk.nil _⟩
theorem SgsAt.len {w : World} {A : Option Addr} {n : Nat} {xs : List Ky} (h : SgsAt w A n xs) : xs.length = n := by
  obtain ⟨vs, a, b⟩ := h
  rw [← b.1]
  exact a.1.lenf kvC_len (by omega)
/-- The row is the packet. -/
def PvOk (w : World) (v : Pv) (p : Pk) : Prop := (v.k = p.kind ∧ v.u = p.who ∧ v.n = p.n) ∧ (v.dn ≤ v.dc ∧ v.pn ≤ v.pc ∧ v.bn ≤ v.bc ∧ v.sn ≤ v.sc) ∧ TRd w 5 1 v.D v.dn (p.data.map byteV) ∧ TRd w 93 32 v.P v.pn (p.proof.flatMap sumC) ∧ TRd w 5 1 v.B v.bn (p.body.map byteV) ∧ SgsAt w v.S v.sn p.sigs
theorem PvOk.keptIn {S : Nat → Prop} {w w' : World} {v : Pv} {p : Pk} (h : PvOk w v p) (hk : KeptIn S w w') (h5 : ∀ b cur, Blk w b 5 cur → S b) (h1 : ∀ b cur, Blk w b 93 cur → S b) (h2 : ∀ b cur, Blk w b 98 cur → S b) : PvOk w' v p :=
  ⟨h.1, h.2.1, h.2.2.1.keptIn hk h5, h.2.2.2.1.keptIn hk h1, h.2.2.2.2.1.keptIn hk h5, h.2.2.2.2.2.keptIn hk h1 h2⟩
theorem PvOk.below {w w' : World} {v : Pv} {p : Pk} (h : PvOk w v p) (hb : Below w.heap.size w w') : PvOk w' v p :=
  h.keptIn (KeptIn.of_below (S := fun k => k < w.heap.size) hb fun _ hk => hk) (fun _ _ hb => hb.lt) (fun _ _ hb => hb.lt) fun _ _ hb => hb.lt
theorem PvOk.lens {w : World} {v : Pv} {p : Pk} (h : PvOk w v p) : p.data.length = v.dn ∧ p.proof.length = v.pn ∧ p.body.length = v.bn ∧ p.sigs.length = v.sn :=
  ⟨h.2.2.1.1.len1, h.2.2.2.1.1.lenf sumC_len (by omega), h.2.2.2.2.1.1.len1, h.2.2.2.2.2.len⟩
theorem pvOk0 (w : World) : PvOk w pv0 pk0 := ⟨⟨rfl, rfl, rfl⟩, ⟨Nat.le_refl _, Nat.le_refl _, Nat.le_refl _, Nat.le_refl _⟩, trd_none _ _ _, trd_none _ _ _, trd_none _ _ _, SgsAt.nil _⟩
/-- Rows of packets. -/
def PvsOk (w : World) (vs : List Pv) (ps : List Pk) : Prop := vs.length = ps.length ∧ ∀ (q : Nat) (v : Pv) (x : Pk), vs[q]? = some v → ps[q]? = some x → PvOk w v x
theorem PvsOk.keptIn {S : Nat → Prop} {w w' : World} {vs : List Pv} {ps : List Pk} (h : PvsOk w vs ps) (hk : KeptIn S w w') (h5 : ∀ b cur, Blk w b 5 cur → S b) (h1 : ∀ b cur, Blk w b 93 cur → S b) (h2 : ∀ b cur, Blk w b 98 cur → S b) : PvsOk w' vs ps :=
  ⟨h.1, fun q v x hv hx => (h.2 q v x hv hx).keptIn hk h5 h1 h2⟩
theorem PvsOk.below {w w' : World} {vs : List Pv} {ps : List Pk} (h : PvsOk w vs ps) (hb : Below w.heap.size w w') : PvsOk w' vs ps :=
  ⟨h.1, fun q v x hv hx => (h.2 q v x hv hx).below hb⟩
theorem PvsOk.nil (w : World) : PvsOk w [] [] := ⟨rfl, fun q v x h => by simp at h⟩
theorem PvsOk.app {w : World} {vs us : List Pv} {ps qs : List Pk} (h : PvsOk w vs ps) (h' : PvsOk w us qs) : PvsOk w (vs ++ us) (ps ++ qs) := by
  refine ⟨by simp [h.1, h'.1], fun q v x h1 h2 => ?_⟩
  rcases Nat.lt_or_ge q vs.length with hq | hq
  · rw [List.getElem?_append_left hq] at h1
    rw [List.getElem?_append_left (by rw [← h.1]; exact hq)] at h2
    exact h.2 q v x h1 h2
  · rw [List.getElem?_append_right hq] at h1
    rw [List.getElem?_append_right (by rw [← h.1]; exact hq), ← h.1] at h2
    exact h'.2 _ v x h1 h2
theorem PvsOk.one {w : World} {v : Pv} {p : Pk} (h : PvOk w v p) : PvsOk w [v] [p] := ⟨rfl, fun q v' x h1 h2 => by
  cases q with
  | zero => simp only [List.getElem?_cons_zero, Option.some.injEq] at h1 h2; rw [← h1, ← h2]; exact h
  | succ z => simp at h1⟩
theorem PvsOk.snoc {w : World} {vs : List Pv} {ps : List Pk} {v : Pv} {p : Pk} (h : PvsOk w vs ps) (hv : PvOk w v p) : PvsOk w (vs ++ [v]) (ps ++ [p]) := h.app (.one hv)
theorem PvsOk.take {w : World} {vs : List Pv} {ps : List Pk} (h : PvsOk w vs ps) (n : Nat) : PvsOk w (vs.take n) (ps.take n) := ⟨by simp [h.1], fun q v x h1 h2 => by
  rw [List.getElem?_take] at h1 h2
  split at h1
  · rename_i hq
    rw [if_pos hq] at h2
    exact h.2 q v x h1 h2
  · cases h1⟩
theorem PvsOk.drop {w : World} {vs : List Pv} {ps : List Pk} (h : PvsOk w vs ps) (n : Nat) : PvsOk w (vs.drop n) (ps.drop n) := ⟨by simp [h.1], fun q v x h1 h2 => by
  rw [List.getElem?_drop] at h1 h2
  exact h.2 _ v x h1 h2⟩
theorem PvsOk.set {w : World} {vs : List Pv} {ps : List Pk} {v : Pv} {p : Pk} (h : PvsOk w vs ps) (i : Nat) (hv : PvOk w v p) : PvsOk w (vs.set i v) (ps.set i p) := ⟨by simp [h.1], fun q v' x h1 h2 => by
  rw [List.getElem?_set] at h1 h2
  split at h1
  · rename_i hq
    rw [if_pos hq] at h2
    split at h1
    · split at h2
      · cases h1; cases h2; exact hv
      · cases h2
    · cases h1
  · rename_i hq
    rw [if_neg hq] at h2
    exact h.2 q v' x h1 h2⟩
/-- Packets in a slice. -/
def PksAt (w : World) (A : Option Addr) (n : Nat) (ps : List Pk) : Prop := ∃ vs, TRd w 39 7 A n (vs.flatMap pvC) ∧ PvsOk w vs ps
theorem PksAt.below {w w' : World} {A : Option Addr} {n : Nat} {ps : List Pk} (h : PksAt w A n ps) (hb : Below w.heap.size w w') : PksAt w' A n ps := by
  obtain ⟨vs, a, b⟩ := h
  exact ⟨vs, a.below hb, b.below hb⟩
theorem PksAt.len {w : World} {A : Option Addr} {n : Nat} {ps : List Pk} (h : PksAt w A n ps) : ps.length = n := by
  obtain ⟨vs, a, b⟩ := h
  rw [← b.1]
  exact a.1.lenf pvC_len (by omega)
theorem PksAt.nil (w : World) (A : Option Addr) : PksAt w A 0 [] := ⟨[], ⟨Rd.nil _ _ _, fun h => absurd h (by omega)⟩, PvsOk.nil _⟩
/-- A row of a slice of rows. -/
theorem rd_row {α : Type} {f : α → List Value} {sz : Nat} (hf : ∀ x, (f x).length = sz) (hsz : 0 < sz) {w : World} {b off n k : Nat} {xs : List α} {x : α} (h : Rd w sz (some ⟨b, off, none⟩) n (xs.flatMap f)) (hx : xs[k]? = some x) : w.rangeAt b (off + k * sz) (f x) := by
  have hk : k < n := by rw [← h.lenf hf hsz]; exact (List.getElem?_eq_some_iff.1 hx).1
  obtain ⟨b', off', y, e, hy, hc⟩ := h.flat_ hf hsz hk
  cases e
  rw [hx] at hy
  cases hy
  intro j v hv
  rw [Nat.add_assoc]
  exact hc j v hv
/-- What Parse answers, as a row. -/
theorem NParse_pv (A : Option Addr) (L c : Nat) (bs : List UInt8) (w : World) (hr : Rd w 1 A L (bs.map byteV)) (hlc : L ≤ c) :
    Calls Try.prog 22 #[.slice A L c] w fun e w' => (∃ v : Pv, e = .returned (.tuple #[.agg (pvC v).toArray, .int .i64 (ansP bs).2]) ∧ PvOk w' v (ansP bs).1) ∧ Below w.heap.size w w' := by
  refine (NParse_any A L c bs w hr hlc).mono ?_
  rintro e w' ⟨⟨vd, vp, vb, vs, rfl, ⟨A1, c1, rfl, h1, r1⟩, ⟨A2, c2, rfl, h2, r2⟩, ⟨A3, c3, rfl, h3, r3⟩, ⟨A4, c4, rfl, h4, r4⟩⟩, hb⟩
  exact ⟨⟨⟨_, _, _, A1, _, c1, A2, _, c2, A3, _, c3, A4, _, c4⟩, rfl, ⟨rfl, rfl, rfl⟩, ⟨h1, h2, h3, h4⟩, r1, r2, r3, r4⟩, hb⟩
theorem info39 : (Try.prog.info? 39).map (fun i => (i.zero, i.size, i.bytes)) = some (some (.agg (pvC pv0).toArray), 7, 120) := by kernel_rfl
theorem size39 (cs : Array Value) (h : cs.size = 7) : (Try.prog.info? 39).map (·.size) = some cs.size := by rw [h]; kernel_rfl
theorem und39 : ∃ d, Try.prog.underlying 39 = some d ∧ d.isRow = true := by
  obtain ⟨d, h1, h2⟩ := Option.map_eq_some_iff.1 (show (Try.prog.underlying 39).map (·.isRow) = some true by kernel_rfl)
  exact ⟨d, h1, h2⟩
/- Bytes as numbers. -/
theorem b8_len (n : Nat) : b8 (n : Int) = UInt8.ofNat n := by
  apply UInt8.toNat_inj.1
  rw [UInt8.toNat_ofNat']
  unfold b8
  rw [UInt8.toNat_ofNat']
  omega
theorem bytS_bound {s : Sg} (h : formedS s = true) : (bytS s).length ≤ 2274 := by
  obtain ⟨N, _, h1, h2, _⟩ := formedS_of h
  rw [bytS_len, h1]
  omega
theorem bytK_bound {xs : List Ky} (h : ∀ x ∈ xs, goodK x = true) : (xs.flatMap bytK).length ≤ 2275 * xs.length := by
  induction xs with
  | nil => simp
  | cons x xs ih =>
    have := ih fun y hy => h y (List.mem_cons_of_mem _ hy)
    have hx := h x List.mem_cons_self
    have hs : formedS x.s = true := by unfold goodK at hx; simp at hx; exact hx.2
    have := bytS_bound hs
    rw [List.flatMap_cons, List.length_append, List.length_cons, show (bytK x).length = (bytS x.s).length + 1 from rfl]
    omega
end Go.Proofs.Yteofgkdpknaapaa
