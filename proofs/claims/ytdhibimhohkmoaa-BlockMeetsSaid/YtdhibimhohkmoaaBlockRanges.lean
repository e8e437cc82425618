/- The reference's Ranges moves ranges by a number. -/
import Derived.Test.YtdhibimhohkmoaaBlockRef3
import Derived.Deep.RegionLaw
namespace Go.Proofs.Ytdhibimhohkmoaa
open Go.RowKit

/-- append to a row that the call owns, as one step of a region that draws. -/
theorem step_append_own {P : Program} {ops : Array Oper} {o : Oper} {a : Act} {w : World} {K : Act → World → Prop} {Q : Exit → Act → World → Prop} {E : Prop}
    (hg : o.guard = none) (s x : Operand) (t : TypeId) (hop : o.op = Op.call { callee := Callee.builtin Builtin.append, args := #[s, x], argTypes := #[t, t] })
    (base : Nat) (e : TypeId) (i : TypeInfo) (z : Value) (size bytes : Nat) (h1 : P.underlying t = some (.slice e)) (h2 : P.info? e = some i) (h3 : i.zero = some z) (h4 : i.size = size) (h5 : i.bytes = bytes) (h6 : z.cells.size = size) (h7 : 0 < size)
    (v : Value) (n : Nat) (xs : List Value) (hs : a.eval s = v) (hown : w.ownsRow base e size v n xs)
    (ad : Addr) (m c : Nat) (news : List Value) (hx : a.eval x = .slice (some ad) m c) (hn : news.length = m * size) (hc : ∀ j u, news[j]? = some u → w.cell? (ad.add j) = some u) (h1c : ∀ u ∈ news, u.oneCell' = true)
    (b1 : n + m ≤ maxLen) (b2 : (n + m) * bytes ≤ 140737488355328) (hbase : base ≤ w.heap.size)
    (hK : ∀ v' w', w'.ownsRow base e size v' (n + m) (xs ++ news) → w.grownBy w' v.ownBlock → K (a.put o.dst v') w') :
    if Region.wanted o (yielded ops a.tmps) = true then Oper.wp P o a w K Q else E := by
  have hw : Region.wanted o (yielded ops a.tmps) = true := by simp [Region.wanted, hg]
  rw [if_pos hw]
  exact wp_append_own w s x t hop base e i z size bytes h1 h2 h3 h4 h5 h6 h7 v n xs hs hown ad m c news hx hn hc h1c b1 b2 hbase fun v' w' h2 h3 _ => hK v' w' h2 h3

set_option maxRecDepth 100000 in
set_option maxHeartbeats 2000000 in
theorem Ranges_any (A : Option Addr) (len cap : Nat) (by_ : Int) (rs : List (Int × Int)) (w : World) (hr : Rd w 2 A len (rs.flatMap twoV)) (hlen : len ≤ 8796093022208)
    (hb : -1000000 ≤ by_ ∧ by_ ≤ 1000000) (hrb : ∀ r ∈ rs, -1000000 ≤ r.1 ∧ r.1 ≤ 1000000 ∧ -1000000 ≤ r.2 ∧ r.2 ≤ 1000000) :
    Calls Try.prog 22 #[.slice A len cap, .int .i64 by_] w fun e W' => ∃ A' n' c', e = .returned (.slice A' n' c') ∧
      Rd W' 2 A' n' ((rs.map fun r => (r.1 + by_, r.2 + by_)).flatMap twoV) ∧ Below w.heap.size w W' := by
  obtain ⟨i0, hi0, hz0, hz1, hz2⟩ := info_parts info48'
  have hle := hr.le
  have hl := hr.lenf twoV_len (by omega)
  subst hl
  have hown := ownsRow_empty (w := w) (base := w.heap.size) 48 2 (Nat.le_refl _)
  go_enter Try.func22, Try.ntmps22
  go_wp2
  go_loopw [5, 6] (fun v i wr => ∃ k : Nat, k ≤ rs.length ∧ i = .int .i64 k ∧ wr.ownsRow w.heap.size 48 2 v k (((rs.take k).map fun r => (r.1 + by_, r.2 + by_)).flatMap twoV) ∧ Below w.heap.size w wr) (fun _ i _ => rs.length - (intOf i).toNat)
  case atStart => exact ⟨0, by omega, rfl, by simpa using hown, (Below.refl _ _).alloc (Nat.le_refl _) _⟩
  case round =>
    obtain ⟨k, hk, rfl, hrow, hB⟩ := hrel
    have hsz := hB.size
    by_cases hlt : k < rs.length
    · obtain ⟨b', off, x, y, rfl, hx, c1, c2⟩ := (hr.below hB).two_ (k := k) (by omega)
      have htk : rs.take (k + 1) = rs.take k ++ [(x, y)] := by rw [List.take_add_one, hx]; rfl
      have hxy := hrb (x, y) (List.mem_of_getElem? hx)
      have Ht := Lib.hid htk
      have Hrb := Lib.hid hrb
      obtain ⟨x1, x2, y1, y2⟩ := hxy
      dsimp only at x1 x2 y1 y2
      have w1 : IntKind.i64.wrap (x + by_) = x + by_ := by rw [IntKind.wrap_i64]; omega
      have w2 : IntKind.i64.wrap (y + by_) = y + by_ := by rw [IntKind.wrap_i64]; omega
      have hrow1 : ∀ o, (wr.alloc o).drew.ownsRow w.heap.size 48 2 u5 k (((rs.take k).map fun r => (r.1 + by_, r.2 + by_)).flatMap twoV) := fun o => hrow.alloc o
      have Hrow := Lib.hid hrow1
      have HB := Lib.hid hB
      clear htk hx hr hrb hrow hrow1 hB
      go_wp2
      go_region_law (refine step_append_own rfl (.tmp 14) (.tmp 30) 33 rfl w.heap.size 48 i0 (.agg #[.int .i64 0, .int .i64 0]) 2 16 Try.underlying33 hi0 hz0 hz1 hz2 rfl (by decide) _ k _ rfl (Hrow.out _) ⟨wr.heap.size, 0, none⟩ 1 1 [.int .i64 (x + by_), .int .i64 (y + by_)] rfl rfl (cells_new _ [.int .i64 (x + by_), .int .i64 (y + by_)] _) (by simp [Value.oneCell']) (by unfold maxLen; omega) (by omega) (by simp; omega) ?_; intro v' w3 hown' hgrow)
      all_goals
        have hB3 : Below w.heap.size w w3 := (HB.out.alloc hsz _).drew.grown hgrow (by simp; omega) (fun k' e' => ((Hrow.out (.cells #[.int .i64 (x + by_), .int .i64 (y + by_)] 48)).lt k' e').1)
        go_wp2
        exact ⟨⟨k + 1, by omega, by go_num, by rw [Ht.out, List.map_append, List.flatMap_append]; simpa [twoV] using hown', hB3⟩, by simp [intOf]; omega⟩
    · go_wp2
      go_ret
      obtain ⟨A2, c2, rfl⟩ := ownsRow_slice hrow
      obtain rfl : k = rs.length := by omega
      rw [List.take_length] at hrow
      exact ⟨A2, _, c2, rfl, Rd.of_own hrow, hB⟩
end Go.Proofs.Ytdhibimhohkmoaa
