/- Plain law: two texts that end alike have the same blocks from a common cut on. -/
import Derived.Test.YtdhibimhohkmoaaBlockLaw4
namespace Go.Proofs.Ytdhibimhohkmoaa

/-- The blocks of a text from a cut on, moved back by its beginning, are those of its end. -/
theorem blocks_end (xs es : List UInt8) (lo hi i at_ : Nat) (r : Nat × Nat) (h4 : 4 ≤ lo) (h : (blocks (xs ++ es) lo hi)[i]? = some r) (hr : r.1 = xs.length + at_) (hle : r.1 ≤ (xs ++ es).length) :
    (((blocks (xs ++ es) lo hi).drop i).map natPair).map (fun r => (r.1 + -(xs.length : Int), r.2 + -(xs.length : Int))) = (froms es lo hi at_).map natPair := by
  rw [blocks_froms, froms_at (xs ++ es) lo hi i 0 r (by rw [← blocks_froms]; exact h), hr]
  rw [froms_shift (xs ++ es) lo hi xs.length h4 (by simp) _ at_ rfl, List.drop_left, List.map_map, List.map_map]
  apply List.map_congr_left
  intro s _
  simp only [Function.comp, natPair]
  ext <;> simp <;> omega
end Go.Proofs.Ytdhibimhohkmoaa
