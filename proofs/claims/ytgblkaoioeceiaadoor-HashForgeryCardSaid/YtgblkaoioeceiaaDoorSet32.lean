/- A byte of a list of hashes is set; the head of a list of hashes. -/
import Derived.Test.YtgblkaoioeceiaaDoorRCheck
import Derived.Test.YtgblkaoioeceiaaDoorAppWide
import Derived.Laws.BitsAllLaws
namespace Go.Proofs.YtgblkaoioeceiaaDoor
open Go.RowKit Go.Sort

theorem flat_set {α β : Type} {f : α → List β} {sz : Nat} (hf : ∀ x, (f x).length = sz) : ∀ (xs : List α) (q r : Nat) (x y : α) (u : β), xs[q]? = some x → r < sz → f y = (f x).set r u → (xs.flatMap f).set (q * sz + r) u = (xs.set q y).flatMap f
  | [], q, r, x, y, u, h, _, _ => by simp at h
  | z :: zs, 0, r, x, y, u, h, hr, hy => by
    simp at h; subst h
    simp only [List.flatMap_cons, List.set_cons_zero, Nat.zero_mul, Nat.zero_add]
    rw [List.set_append_left _ _ (by rw [hf]; exact hr), hy]
  | z :: zs, q + 1, r, x, y, u, h, hr, hy => by
    simp at h
    simp only [List.flatMap_cons, List.set_cons_succ]
    rw [List.set_append_right _ _ (by rw [hf, Nat.add_mul]; omega), hf, show (q + 1) * sz + r - sz = q * sz + r from by rw [Nat.add_mul]; omega, flat_set hf zs q r x y u h hr hy]
def setS (x : Sum32) (r : Nat) (b : UInt8) : Sum32 := ⟨x.1.set r b, by rw [List.length_set]; exact x.2⟩
theorem sumC_setS (x : Sum32) (r : Nat) (b : UInt8) : sumC (setS x r b) = (sumC x).set r (byteV b) := by
  unfold sumC setS
  rw [List.map_set]
theorem ownsRow_set {w : World} {base : Nat} {e : TypeId} {sz : Nat} {v : Value} {n : Nat} {xs : List Value} (h : w.ownsRow base e sz v n xs) {g : Nat} (hg : v.ownBlock = some g) (i : Nat) (u : Value) :
    (w.setCell ⟨g, i, none⟩ u).ownsRow base e sz v n (xs.set i u) := by
  rcases h with ⟨hl, ⟨rfl, _⟩ | ⟨g', cap, cur, rfl, hb, hgg, hnc, hcm, hcs, ht⟩⟩
  · cases hg
  · simp only [Value.ownBlock, Option.some.injEq] at hg
    subst hg
    refine ⟨by rw [List.length_set]; exact hl, .inr ⟨g', cap, cur.setIfInBounds i u, rfl, hb, heap_setCell_same w g' i cur e u hgg, hnc, hcm, by simpa using hcs, ?_⟩⟩
    rw [Array.toList_setIfInBounds, List.take_set, ht]
theorem ownsRow_blk {w : World} {base : Nat} {e : TypeId} {sz : Nat} {g n c : Nat} {xs : List Value} (h : w.ownsRow base e sz (.slice (some ⟨g, 0, none⟩) n c) n xs) : ∃ cur, Blk w g e cur := by
  rcases h with ⟨_, ⟨hv, _⟩ | ⟨g', cap, cur, hv, hb, hgg, _⟩⟩
  · cases hv
  · cases hv
    exact ⟨cur, hgg⟩
theorem AppZ.blk {w : World} {base : Nat} {e : TypeId} {sz n c g o : Nat} {xs : List Value} (h : AppZ w base e sz (.slice (some ⟨g, o, none⟩) n c) n xs) (hn : 0 < n) : ∃ cur, Blk w g e cur := by
  rcases h with ⟨rfl, _⟩ | ⟨_, ⟨hv, _⟩ | ⟨g', cap, cur, hv, hb, hgg, _⟩⟩
  · omega
  · cases hv
  · cases hv
    exact ⟨cur, hgg⟩
theorem Blk.ne {w : World} {g g' : Nat} {t t' : TypeId} {cs cs' : Array Value} (h : Blk w g t cs) (h' : Blk w g' t' cs') (hne : t ≠ t') : g ≠ g' := by
  rintro rfl
  unfold Blk at h h'
  rw [h] at h'
  cases h'
  exact hne rfl
theorem Blk.drewN {w : World} {g : Nat} {t : TypeId} {cs : Array Value} (h : Blk w g t cs) (k : Nat) : Blk (w.drewN k) g t cs := h
theorem Rd.head32 {w : World} {n m : Nat} {A : Option Addr} {xs : List Sum32} (h : Rd w 32 A n (xs.flatMap sumC)) (hm : m ≤ n) : Rd w 32 A m ((xs.take m).flatMap sumC) := by
  have hl := h.lenf sumC_len (by omega)
  refine ⟨by rw [flat_length sumC_len, List.length_take]; congr 1; omega, by have := h.le; omega, fun hp => ?_⟩
  obtain ⟨b, off, e, hc⟩ := h.2.2 (by omega)
  refine ⟨b, off, e, fun j u hu => hc j u ?_⟩
  rw [show xs.flatMap sumC = (xs.take m).flatMap sumC ++ (xs.drop m).flatMap sumC from by rw [← List.flatMap_append, List.take_append_drop]]
  rw [List.getElem?_append_left (List.getElem?_eq_some_iff.1 hu).1]
  exact hu
theorem w8_xor (x y : UInt8) : bits .xor .u8 (x.toNat : Int) (y.toNat : Int) = ((x ^^^ y).toNat : Int) := by
  rw [u8_xor_nat _ _ x.toNat_lt y.toNat_lt, UInt8.toNat_xor]
theorem oneP (p : List Sum32) : ∀ u ∈ p.flatMap sumC, u.oneCell' = true := fun u hu => by obtain ⟨x, _, hx⟩ := List.mem_flatMap.1 hu; exact oneB _ u hx
end Go.Proofs.YtgblkaoioeceiaaDoor
